/- disk: the document's 'link': a name put into a directory, or struck. -/
import Derived.Test.YtcaipccgphblnaaRows2
import Derived.WalkLawsBesides
namespace Go.Proofs.Ytcaipccgphblnaa.Dk
open Go.RowKit Go.WideMaps Go.Proofs.YtcaipccgphblnaaW.PrintWords
set_option linter.unusedSimpArgs false
/-- What 'link' makes of the rest of a directory. -/
def lkRun (n : Bs) (i : Nat) : Bool → Lk → Lk
  | true, [] => []
  | false, [] => [(n, i)]
  | true, p :: r => if p.1 = n then lkRun n i true r else p :: lkRun n i true r
  | false, p :: r => if bytesBefore n p.1 = true then (n, i) :: p :: lkRun n i true r else if p.1 = n then lkRun n i false r else p :: lkRun n i false r
theorem before_ne {a b : Bs} (h : bytesBefore a b = true) : b ≠ a := fun e => by rw [e, WideAt.bytes_irrefl] at h; cases h
theorem lkRun_del (n : Bs) (i : Nat) : ∀ l : Lk, lkRun n i true l = del l n
  | [] => rfl
  | p :: r => by
    have ih := lkRun_del n i r
    show (if p.1 = n then lkRun n i true r else p :: lkRun n i true r) = _
    rw [ih]
    by_cases e : p.1 = n
    · simp [e, del]
    · simp [e, del]
theorem lkRun_put (n : Bs) (i : Nat) : ∀ l : Lk, lkRun n i false l = put l n i
  | [] => rfl
  | p :: r => by
    have ih := lkRun_put n i r
    unfold lkRun put del
    by_cases hb : bytesBefore n p.1 = true
    · have hne := before_ne hb
      rw [if_pos hb, lkRun_del]
      simp [hne, ins, hb, del]
    · rw [if_neg hb]
      by_cases e : p.1 = n
      · rw [if_pos e, ih]
        simp [e, put, del]
      · rw [if_neg e, ih]
        simp [e, ins, hb, put, del]
theorem less_before : ∀ a b : Bs, Op.bytesLess a b = bytesBefore a b
  | [], [] => rfl
  | [], _ :: _ => rfl
  | _ :: _, [] => rfl
  | a :: r, b :: s => by
    unfold Op.bytesLess bytesBefore
    rw [less_before r s]
theorem tmp0 (w : World) (o : Obj) : (w.alloc o).heap[w.heap.size]? = some o := heap_alloc_new w o
theorem tmp1 (w : World) (o o' : Obj) : ((w.alloc o).alloc o').heap[w.heap.size + 1]? = some o' := by
  have := heap_alloc_new (w.alloc o) o'
  rwa [World.size_alloc] at this
theorem mk_toList (n : ByteArray) : (⟨n.data.toList.toArray⟩ : ByteArray) = n := by cases n; simp
theorem info53 : (Try.prog.info? 53).map (fun i => (i.zero, i.size, i.bytes)) = some (some (.agg #[.string ⟨#[]⟩, .int .i64 0]), 2, 24) := by kernel_rfl
theorem links_snoc (l : Lk) (p : Bs × Nat) : flat (links (l ++ [p])) = flat (links l) ++ [.string ⟨p.1.toArray⟩, .int .i64 (p.2 : Nat)] := by simp [links, flat]
/-- 'append' of one link. -/
theorem wpList_append_link {ops : Array Oper} {rest : List Oper} {o : Oper} {a : Act} {Q : Exit → Act → World → Prop} (w : World) (hgd : o.guard = none) (s x : Operand)
    (ho : o.op = .call { callee := .builtin .append, args := #[s, x], argTypes := #[46, 46] }) (base : Nat) (v : Value) (l : Lk) (p : Bs × Nat) (b : Nat) (hs : a.eval s = v) (hx : a.eval x = .slice (some ⟨b, 0, none⟩) 1 1)
    (h : w.ownsRow base 53 2 v l.length (flat (links l))) (hb : w.heap[b]? = some (.cells #[.string ⟨p.1.toArray⟩, .int .i64 (p.2 : Nat)] 53 (0, 0))) (hl : l.length ≤ 1000000000) (hbase : base ≤ w.heap.size)
    (hK : ∀ (g cap : Nat) (w' : World), w'.ownsRow base 53 2 (.slice (some ⟨g, 0, none⟩) (l.length + 1) cap) (l.length + 1) (flat (links (l ++ [p]))) → w.grownBy w' v.ownBlock →
      wpList Try.prog ops Q rest (a.put o.dst (.slice (some ⟨g, 0, none⟩) (l.length + 1) cap)) w') : wpList Try.prog ops Q (o :: rest) a w := by
  obtain ⟨i0, hi, hz0, hz1, hz2⟩ := info_parts info53
  refine wpList_append_own w hgd s x 46 ho base 53 i0 _ 2 24 Try.underlying46 hi hz0 hz1 hz2 rfl (by decide) v l.length _ hs h ⟨b, 0, none⟩ 1 1 [.string ⟨p.1.toArray⟩, .int .i64 (p.2 : Nat)] hx rfl ?_ (by simp [Value.oneCell']) (by simp only [maxLen]; omega) (by omega) hbase ?_
  · intro j u hu
    have hadd : (⟨b, 0, none⟩ : Addr).add j = ⟨b, j, none⟩ := by unfold Addr.add; split <;> simp_all
    rw [hadd, cell_of_row w b j _ 53 (0, 0) hb]
    simpa using hu
  · intro v' w' hown hg _
    rw [← links_snoc] at hown
    obtain ⟨g, cap, rfl⟩ := ownsRow_succ hown
    exact hK g cap w' hown hg
set_option maxRecDepth 100000 in
set_option maxHeartbeats 2000000 in
theorem link_calls (v : Value) (l : Lk) (n : ByteArray) (z : Int) (i : Nat) (done : Bool) (hz : (z < 0) = (done = true)) (hzi : done = false → z = i) (w : World) (h : SRow w 53 v (links l)) (hl : l.length ≤ 1000000) :
    Calls Try.prog 53 #[v, .string n, .int .i64 z] w fun e w' => ∃ v', e = .returned v' ∧ w'.ownsRow w.heap.size 53 2 v' (lkRun n.data.toList i done l).length (flat (links (lkRun n.data.toList i done l))) ∧ Below w.heap.size w w' := by
  obtain ⟨a, cap, rfl, h1, h2⟩ := h.form
  rw [links_length] at h1 h ⊢
  have HS := Aside0.mk h
  have HL := Aside0.mk hl
  have HZI := Aside0.mk hzi
  have hm : l.length ≤ 9223372036854775807 := by omega
  have hd : decide (z < 0) = done := by cases done <;> simp_all
  clear h h1 h2 hl hz hzi
  go_enter Try.func53, Try.ntmps53
  go_wp2_with (fail)
  go_loopw [7, 8, 10, 15] (fun out dn _ ix wr => ∃ (k : Nat) (d : Bool) (acc : Lk), k ≤ l.length ∧ ix = .int .i64 k ∧ dn = .bool d ∧ wr.ownsRow w.heap.size 53 2 out acc.length (flat (links acc)) ∧ acc ++ lkRun n.data.toList i d (l.drop k) = lkRun n.data.toList i done l ∧ (d = false → z = i) ∧ (acc.length ≤ k + 1 ∧ (d = false → acc.length ≤ k)) ∧ Below w.heap.size w wr)
    (fun _ _ _ ix _ => l.length - (intOf ix).toNat)
  case atStart => exact ⟨0, done, [], Nat.zero_le _, rfl, rfl, World.ownsRow_nil _ _ _ _, rfl, HZI.out, ⟨by simp, by simp⟩, Below.refl _ _⟩
  case round =>
    obtain ⟨k, d, acc, hk, rfl, rfl, hown, hrun, hzd, hacc, hB⟩ := hrel
    by_cases hlt : k < l.length
    · obtain ⟨g, cap', cur, hv, _, q0, q1, _, _, _, _⟩ := (SRow.below (w' := wr) HS.out hB).at (links_get (List.getElem?_eq_getElem hlt))
      rw [links_length] at hv
      cases hv
      rw [List.drop_eq_getElem_cons hlt] at hrun
      have HO := Aside0.mk hown
      have HRUN := Aside0.mk hrun
      have HZD := Aside0.mk hzd
      have HACC := Aside0.mk hacc
      have HB := Aside0.mk hB
      clear hown hrun hzd hacc hB
      cases d with
      | true =>
        by_cases e : l[k].1 = n.data.toList
        · have e2 : (l[k].1 == n.toList) = true := by rw [ByteArray.toList_eq]; simpa using e
          have HE := Aside0.mk e
          clear e
          go_wp2_with (fail)
          refine ⟨⟨k + 1, true, acc, by omega, by go_num, rfl, HO.out.alloc _, ?_, (fun h => by cases h), ⟨by have := HACC.out.1; omega, fun h => by have := HACC.out.2 h; omega⟩, HB.out.alloc HB.out.size _⟩, by simp [intOf]; omega⟩
          have h := HRUN.out
          simp only [lkRun, if_pos HE.out] at h
          exact h
        · have e2 : (l[k].1 == n.toList) = false := by rw [ByteArray.toList_eq]; simpa using e
          have HE := Aside0.mk e
          clear e
          go_wp2_with (at_builtin; refine wpList_append_link _ rfl _ _ rfl w.heap.size _ acc l[k] (wr.heap.size + 1) rfl rfl ((HO.out.alloc _).alloc _) (tmp1 _ _ _) (by have := HACC.out.1; have := HL.out; omega) (by have := HB.out.size; simp; omega) ?_; intro g2 cap2 w2 hown2 hg2; have HO2 := Aside0.mk hown2; have HG2 := Aside0.mk hg2; clear hown2 hg2)
          refine ⟨⟨k + 1, true, acc ++ [l[k]], by omega, by go_num, rfl, by rw [List.length_append]; exact HO2.out, ?_, (fun h => by cases h), ⟨by have := HACC.out.1; simp; omega, fun h => by have := HACC.out.2 h; simp; omega⟩, ((HB.out.alloc HB.out.size _).alloc (by have := HB.out.size; simp; omega) _).grown HG2.out (by have := HB.out.size; simp; omega) (fun k e => (HO.out.lt k e).1)⟩, by simp [intOf]; omega⟩
          have h := HRUN.out
          simp only [lkRun, if_neg HE.out] at h
          rw [List.append_assoc]; exact h
      | false =>
        have hzi := HZD.out rfl
        by_cases hb : bytesBefore n.data.toList l[k].1 = true
        · have b2 : Op.bytesLess n.toList l[k].1 = true := by rw [ByteArray.toList_eq, less_before]; exact hb
          have e2 : (l[k].1 == n.toList) = false := by rw [ByteArray.toList_eq]; simpa using before_ne hb
          have HBF := Aside0.mk hb
          have HZ := Aside0.mk hzi
          clear hb hzi
          have x0 : ∀ (w2 : World) (o1 o2 : Obj) (out : Value), wr.ownsRow w.heap.size 53 2 out acc.length (flat (links acc)) → ((wr.alloc o1).alloc o2).grownBy w2 out.ownBlock → w2.heap[wr.heap.size]? = some o1 := fun w2 o1 o2 out ho hg => (hg.block _ (by simp; omega) (fun e => by have := (ho.lt _ e.symm).2; omega)).trans ((Below.heap_alloc _ _ _ (by simp)).trans (heap_alloc_new wr o1))
          have X0 := Aside0.mk x0
          clear x0
          have tok1 : True := trivial
          go_wp2_with (first
            | (at_builtin; have _t := tok1; refine wpList_append_link _ rfl _ _ rfl w.heap.size _ acc (n.data.toList, i) (wr.heap.size + 1) rfl rfl ((HO.out.alloc _).alloc _) (by rw [mk_toList, ← HZ.out]; exact tmp1 _ _ _) (by have := HACC.out.1; have := HL.out; omega) (by have := HB.out.size; simp; omega) ?_; intro g2 cap2 w2 hown2 hg2; have kx := X0.out _ _ _ _ HO.out hg2; have y0 : w2.cell? ⟨wr.heap.size, 0, none⟩ = some (.string ⟨l[k].1.toArray⟩) := (by simp [World.cell?, kx]); have y1 : w2.cell? ⟨wr.heap.size, 1, none⟩ = some (.int .i64 (l[k].2 : Nat)) := (by simp [World.cell?, kx]); have HO2 := Aside0.mk hown2; have HG2 := Aside0.mk hg2; clear hown2 hg2 kx tok1 _t)
            | (at_builtin; refine wpList_append_link _ rfl _ _ rfl w.heap.size _ (acc ++ [(n.data.toList, i)]) l[k] w2.heap.size rfl rfl (World.ownsRow.alloc (by rw [List.length_append]; exact HO2.out) _) (tmp0 _ _) (by have := HACC.out.1; have := HL.out; simp; omega) (by have := HG2.out.size; have := HB.out.size; simp at *; omega) ?_; intro g3 cap3 w3 hown3 hg3; have HO3 := Aside0.mk hown3; have HG3 := Aside0.mk hg3; clear hown3 hg3))
          refine ⟨⟨k + 1, true, acc ++ [(n.data.toList, i)] ++ [l[k]], by omega, by go_num, rfl, ?_, ?_, (fun h => by cases h), ⟨by have := HACC.out.2 rfl; simp; omega, (fun h => by cases h)⟩, ?_⟩, by simp [intOf]; omega⟩
          · have h := HO3.out
            rw [List.length_append] at h
            rw [List.length_append, List.length_append]
            exact h
          · have h := HRUN.out
            simp only [lkRun, if_pos HBF.out] at h
            rw [List.append_assoc, List.append_assoc]
            exact h
          · have hb2 := ((HB.out.alloc HB.out.size _).alloc (by have := HB.out.size; simp; omega) _).grown HG2.out (by have := HB.out.size; simp; omega) (fun k e => (HO.out.lt k e).1)
            exact (hb2.alloc hb2.size _).grown HG3.out (by have := hb2.size; simp; omega) (fun k e => (HO2.out.lt k e).1)
        · have b2 : Op.bytesLess n.toList l[k].1 = false := by rw [ByteArray.toList_eq, less_before]; simpa using hb
          have HBF := Aside0.mk hb
          clear hb hzi
          by_cases e : l[k].1 = n.data.toList
          · have e2 : (l[k].1 == n.toList) = true := by rw [ByteArray.toList_eq]; simpa using e
            have HE := Aside0.mk e
            clear e
            go_wp2_with (fail)
            refine ⟨⟨k + 1, false, acc, by omega, by go_num, rfl, HO.out.alloc _, ?_, HZD.out, ⟨by have := HACC.out.1; omega, fun h => by have := HACC.out.2 h; omega⟩, HB.out.alloc HB.out.size _⟩, by simp [intOf]; omega⟩
            have h := HRUN.out
            simp only [lkRun, if_neg HBF.out, if_pos HE.out] at h
            exact h
          · have e2 : (l[k].1 == n.toList) = false := by rw [ByteArray.toList_eq]; simpa using e
            have HE := Aside0.mk e
            clear e
            go_wp2_with (at_builtin; refine wpList_append_link _ rfl _ _ rfl w.heap.size _ acc l[k] (wr.heap.size + 1) rfl rfl ((HO.out.alloc _).alloc _) (tmp1 _ _ _) (by have := HACC.out.1; have := HL.out; omega) (by have := HB.out.size; simp; omega) ?_; intro g2 cap2 w2 hown2 hg2; have HO2 := Aside0.mk hown2; have HG2 := Aside0.mk hg2; clear hown2 hg2)
            refine ⟨⟨k + 1, false, acc ++ [l[k]], by omega, by go_num, rfl, by rw [List.length_append]; exact HO2.out, ?_, HZD.out, ⟨by have := HACC.out.1; simp; omega, fun h => by have := HACC.out.2 h; simp; omega⟩, ((HB.out.alloc HB.out.size _).alloc (by have := HB.out.size; simp; omega) _).grown HG2.out (by have := HB.out.size; simp; omega) (fun k e => (HO.out.lt k e).1)⟩, by simp [intOf]; omega⟩
            have h := HRUN.out
            simp only [lkRun, if_neg HBF.out, if_neg HE.out] at h
            rw [List.append_assoc]; exact h
    · have hdr : l.drop k = [] := List.drop_eq_nil_of_le (by omega)
      rw [hdr] at hrun
      have HO := Aside0.mk hown
      have HRUN := Aside0.mk hrun
      have HACC := Aside0.mk hacc
      have HB := Aside0.mk hB
      cases d with
      | true =>
        clear hown hrun hacc hB hzd hdr
        go_wp2_with (fail)
        go_ret
        have h := HRUN.out
        simp only [lkRun, List.append_nil] at h
        refine ⟨_, rfl, ?_, HB.out⟩
        rw [← h]; exact HO.out
      | false =>
        have HZ := Aside0.mk (hzd rfl)
        clear hown hrun hacc hB hzd hdr
        go_wp2_with (at_builtin; refine wpList_append_link _ rfl _ _ rfl w.heap.size _ acc (n.data.toList, i) wr.heap.size rfl rfl (HO.out.alloc _) (by rw [mk_toList, ← HZ.out]; exact tmp0 _ _) (by have := HACC.out.1; have := HL.out; omega) (by have := HB.out.size; simp; omega) ?_; intro g2 cap2 w2 hown2 hg2; have HO2 := Aside0.mk hown2; have HG2 := Aside0.mk hg2; clear hown2 hg2)
        go_ret
        have h := HRUN.out
        simp only [lkRun] at h
        refine ⟨_, rfl, ?_, (HB.out.alloc HB.out.size _).grown HG2.out (by have := HB.out.size; simp; omega) (fun k e => (HO.out.lt k e).1)⟩
        rw [← h, List.length_append]; exact HO2.out
theorem SRow.of_own {w : World} {base : Nat} {e : TypeId} {v : Value} {xs : List (Value × Value)} {n : Nat} (h : w.ownsRow base e 2 v n (flat xs)) (hn : n = xs.length) : SRow w e v xs ∧ ∀ g, v.ownBlock = some g → base ≤ g := by
  subst hn
  refine ⟨⟨h.1, ?_⟩, fun g hg => (h.lt g hg).1⟩
  rcases h.2 with h0 | ⟨g, cap, cur, rfl, _, r⟩
  · exact .inl h0
  · exact .inr ⟨g, cap, cur, rfl, Nat.zero_le _, r⟩
/-- A name struck. -/
theorem link_del (v : Value) (l : Lk) (n : ByteArray) (w : World) (h : SRow w 53 v (links l)) (hl : l.length ≤ 1000000) :
    Calls Try.prog 53 #[v, .string n, .int .i64 (-1)] w fun e w' => ∃ v', e = .returned v' ∧ SRow w' 53 v' (links (del l n.data.toList)) ∧ (∀ g, v'.ownBlock = some g → w.heap.size ≤ g) ∧ Below w.heap.size w w' :=
  (link_calls v l n (-1) 0 true (by simp) (by simp) w h hl).mono fun e w' ⟨v', he, ho, hb⟩ => by
    rw [lkRun_del] at ho
    have := SRow.of_own ho (by rw [links_length])
    exact ⟨v', he, this.1, this.2, hb⟩
/-- A name laid. -/
theorem link_put (v : Value) (l : Lk) (n : ByteArray) (i : Nat) (w : World) (h : SRow w 53 v (links l)) (hl : l.length ≤ 1000000) :
    Calls Try.prog 53 #[v, .string n, .int .i64 (i : Nat)] w fun e w' => ∃ v', e = .returned v' ∧ SRow w' 53 v' (links (put l n.data.toList i)) ∧ (∀ g, v'.ownBlock = some g → w.heap.size ≤ g) ∧ Below w.heap.size w w' :=
  (link_calls v l n i i false (by simp) (by simp) w h hl).mono fun e w' ⟨v', he, ho, hb⟩ => by
    rw [lkRun_put] at ho
    have := SRow.of_own ho (by rw [links_length])
    exact ⟨v', he, this.1, this.2, hb⟩
end Go.Proofs.Ytcaipccgphblnaa.Dk
