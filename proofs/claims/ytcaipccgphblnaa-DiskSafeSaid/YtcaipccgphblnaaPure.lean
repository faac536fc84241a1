/- disk: the plain model keeps its order: whatever is called, room is kept, no file has two names. -/
import Derived.Test.YtcaipccgphblnaaMod
namespace Go.Proofs.Ytcaipccgphblnaa.Dk
/-- The files in use, each once. -/
def St.all (s : St) : List Nat := s.dir.map (·.2) ++ s.gone
theorem sumL_append (s : St) (a b : List Nat) : sumL s (a ++ b) = sumL s a + sumL s b := by simp [sumL]
theorem free_eq (s : St) : s.free = s.room - (sumL s s.all : Nat) := by
  unfold St.free St.all
  rw [sumL_append]; omega
theorem mem_gone {s : St} {i : Nat} : i ∈ s.gone ↔ i ∈ s.safe.map (·.2) ∧ i ∉ s.dir.map (·.2) := by
  unfold St.gone
  rw [List.mem_filter]
  simp
theorem mem_all {s : St} {i : Nat} : i ∈ s.all ↔ s.used i := by
  unfold St.all St.used
  rw [List.mem_append, mem_gone]
  by_cases h : i ∈ s.dir.map (·.2) <;> simp [h]
theorem nodup_all {s : St} (hd : (s.dir.map (·.2)).Nodup) (hs : (s.safe.map (·.2)).Nodup) : s.all.Nodup := by
  unfold St.all
  rw [List.nodup_append]
  refine ⟨hd, hs.filter _, fun a ha b hb e => ?_⟩
  subst e
  exact (mem_gone.1 hb).2 ha
theorem sum_le {f g : Nat → Nat} : ∀ {l l' : List Nat}, l.Nodup → (∀ i ∈ l, i ∈ l') → (∀ i ∈ l, f i ≤ g i) → (l.map f).sum ≤ (l'.map g).sum
  | [], _, _, _, _ => Nat.zero_le _
  | x :: r, l', hn, hs, hf => by
    rw [List.nodup_cons] at hn
    have hx : x ∈ l' := hs x (by simp)
    have hp := List.perm_cons_erase hx
    have ih := sum_le (l := r) (l' := l'.erase x) hn.2 (fun i hi => (List.mem_erase_of_ne (fun e => hn.1 (by rw [← e]; exact hi))).2 (hs i (by simp [hi]))) (fun i hi => hf i (by simp [hi]))
    have e : (l'.map g).sum = g x + ((l'.erase x).map g).sum := by rw [(hp.map g).sum_nat]; simp
    rw [e]
    have := hf x (by simp)
    simp only [List.map_cons, List.sum_cons]
    omega
/-- No more in use, none longer: no less room. -/
theorem free_mono {s s' : St} (hr : s'.room = s.room) (hn : s'.all.Nodup) (hu : ∀ i, s'.used i → s.used i) (hf : ∀ i, s'.used i → s'.len i ≤ s.len i) : s.free ≤ s'.free := by
  rw [free_eq, free_eq, hr]
  have : sumL s' s'.all ≤ sumL s s.all := sum_le hn (fun i hi => mem_all.2 (hu i (mem_all.1 hi))) (fun i hi => hf i (mem_all.1 hi))
  omega
theorem sum_upd {f g : Nat → Nat} {x k : Nat} : ∀ {l : List Nat}, l.Nodup → x ∈ l → g x = f x + k → (∀ i, i ≠ x → g i = f i) → (l.map g).sum = (l.map f).sum + k
  | [], _, hx, _, _ => by simp at hx
  | y :: r, hn, hx, h1, h2 => by
    rw [List.nodup_cons] at hn
    simp only [List.map_cons, List.sum_cons]
    by_cases e : y = x
    · subst e
      have : r.map g = r.map f := List.map_congr_left fun i hi => h2 i (fun e => hn.1 (e ▸ hi))
      rw [this, h1]; omega
    · have hx' : x ∈ r := (List.mem_cons.1 hx).resolve_left (fun e' => e e'.symm)
      rw [sum_upd hn.2 hx' h1 h2, h2 y e]; omega
theorem file_upd_same {s : St} {i : Nat} (hi : i < s.files.length) (f : F) : (s.upd i f).file i = f := by simp [St.upd, St.file, hi]
theorem file_upd_other {s : St} {i j : Nat} (hij : i ≠ j) (f : F) : (s.upd i f).file j = s.file j := by simp [St.upd, St.file, List.getElem?_set, hij]
theorem file_out {s : St} {i : Nat} (hi : s.files.length ≤ i) : s.file i = ⟨[], 0⟩ := by simp [St.file, List.getElem?_eq_none hi]
theorem wf_new {room : Int} (h : 0 ≤ room ∧ room ≤ 9223372036854775807) : Wf (newSt room) := by
  refine ⟨h, by simp [newSt], ⟨by simp [newSt], by simp [newSt], by simp [newSt]⟩, ⟨by simp [newSt], by simp [newSt], by simp [newSt]⟩, fun i => by simp [newSt, St.file, St.len], ?_⟩
  have : (newSt room).free = room := by simp [newSt, St.free, St.gone, sumL]
  rw [this]; exact h.1
theorem wf_may {s : St} (hw : Wf s) : Wf s.may := by
  refine ⟨hw.room, ?_, hw.dir, hw.sdir, hw.safe, hw.free⟩
  have := hw.left
  show -9223372036854775808 ≤ (mayS s.failing s.left s.torn).2.1 ∧ (mayS s.failing s.left s.torn).2.1 ≤ 9223372036854775807
  unfold mayS
  split
  · exact this
  · split
    · simp only; omega
    · exact this
theorem wf_fail {s : St} (hw : Wf s) {n : Int} (hn : -9223372036854775808 ≤ n ∧ n ≤ 9223372036854775807) : Wf (s.fail n) := ⟨hw.room, hn, hw.dir, hw.sdir, hw.safe, hw.free⟩
theorem lk_lt {l : Lk} {k i : Nat} (h : Lk.Ok l k) (hi : i ∈ l.map (·.2)) : i < k := by
  obtain ⟨p, hp, rfl⟩ := List.mem_map.1 hi
  exact h.lt p hp
theorem used_lt {s : St} (hw : Wf s) {i : Nat} (hi : s.used i) : i < s.files.length := hi.elim (lk_lt hw.dir) (lk_lt hw.sdir)
theorem find_used {s : St} {n : Bs} {i : Nat} (h : find s.dir n = some i) : s.used i := .inl (List.mem_map.2 ⟨_, find_some h, rfl⟩)
/-- A file of no more bytes. -/
theorem wf_upd {s : St} (hw : Wf s) {i : Nat} (hi : i < s.files.length) {f : F} (hf : f.safe ≤ f.b.length) (hfree : 0 ≤ (s.upd i f).free) : Wf (s.upd i f) := by
  have hlen : (s.upd i f).files.length = s.files.length := by simp [St.upd]
  refine ⟨hw.room, hw.left, by rw [hlen]; exact hw.dir, by rw [hlen]; exact hw.sdir, fun j => ?_, hfree⟩
  unfold St.len
  by_cases e : i = j
  · subst e; rw [file_upd_same hi]; exact hf
  · rw [file_upd_other e]; exact hw.safe j
theorem free_upd_le {s : St} (hw : Wf s) {i : Nat} (hi : i < s.files.length) {f : F} (hl : f.b.length ≤ s.len i) : s.free ≤ (s.upd i f).free := by
  refine free_mono rfl (nodup_all hw.dir.ats hw.sdir.ats) (fun j hj => hj) (fun j _ => ?_)
  unfold St.len
  by_cases e : i = j
  · subst e; rw [file_upd_same hi]; exact hl
  · rw [file_upd_other e]; exact Nat.le_refl _
theorem free_upd_add {s : St} (hw : Wf s) {i : Nat} (hu : s.used i) {f : F} {k : Nat} (hl : f.b.length = s.len i + k) : (s.upd i f).free = s.free - k := by
  have hi := used_lt hw hu
  rw [free_eq, free_eq]
  have : sumL (s.upd i f) (s.upd i f).all = sumL s s.all + k := by
    refine sum_upd (nodup_all hw.dir.ats hw.sdir.ats) (mem_all.2 hu) ?_ (fun j hj => ?_)
    · unfold St.len; rw [file_upd_same hi]; exact hl
    · unfold St.len; rw [file_upd_other (fun e => hj e.symm)]
  rw [this]
  show s.room - _ = _
  omega
theorem wf_sync {s : St} (hw : Wf s) (n : Bs) : Wf (s.sync n).2 := by
  unfold St.sync
  split
  · exact wf_may hw
  · split
    · exact wf_may hw
    · rename_i i hf
      have hi : i < s.files.length := used_lt hw (find_used hf)
      refine wf_upd (wf_may hw) hi (Nat.le_refl _) (Int.le_trans hw.free (free_upd_le (s := s.may) (wf_may hw) hi (Nat.le_refl _)))
theorem wf_flush {s : St} (hw : Wf s) : Wf s.flush.2 := by
  unfold St.flush
  split
  · exact wf_may hw
  · have h := wf_may hw
    refine ⟨h.room, h.left, h.dir, h.dir, h.safe, Int.le_trans hw.free (free_mono (s := s) rfl (nodup_all hw.dir.ats hw.dir.ats) (fun i hi => .inl (hi.elim id id)) (fun _ _ => Nat.le_refl _))⟩
theorem ok_del {l : Lk} {k : Nat} (h : Lk.Ok l k) (n : Bs) : Lk.Ok (del l n) k := okDel h n
theorem wf_remove {s : St} (hw : Wf s) (n : Bs) : Wf (s.remove n).2 := by
  unfold St.remove
  split
  · exact wf_may hw
  · split
    · exact wf_may hw
    · have h := wf_may hw
      have hd := okDel h.dir n
      refine ⟨h.room, h.left, hd, h.sdir, h.safe, Int.le_trans hw.free (free_mono (s := s) rfl (nodup_all hd.ats h.sdir.ats) (fun i hi => hi.elim (fun e => ?_) .inr) (fun _ _ => Nat.le_refl _))⟩
      obtain ⟨p, hp, rfl⟩ := List.mem_map.1 e
      exact .inl (List.mem_map.2 ⟨p, (mem_del.1 hp).1, rfl⟩)
theorem at_name {l : Lk} (h : (l.map (·.2)).Nodup) {a c : Bs} {i : Nat} (ha : (a, i) ∈ l) (hc : (c, i) ∈ l) : a = c := by
  induction l with
  | nil => simp at ha
  | cons p r ih =>
    simp only [List.map_cons, List.nodup_cons] at h
    rcases List.mem_cons.1 ha with e | ha' <;> rcases List.mem_cons.1 hc with e' | hc'
    · rw [← e] at e'; cases e'; rfl
    · exact absurd (List.mem_map.2 ⟨_, hc', by rw [← e]⟩) h.1
    · exact absurd (List.mem_map.2 ⟨_, ha', by rw [← e']⟩) h.1
    · exact ih h.2 ha' hc'
theorem wf_rename {s : St} (hw : Wf s) (n t : Bs) : Wf (s.rename n t).2 := by
  unfold St.rename
  split
  · exact wf_may hw
  · split
    · exact wf_may hw
    · rename_i i hf
      split
      · exact wf_may hw
      · have h := wf_may hw
        have hd := okDel h.dir n
        have hni : i ∉ (del (del s.dir n) t).map (·.2) := fun hm => by
          obtain ⟨p, hp, hpi⟩ := List.mem_map.1 hm
          have h1 := (mem_del.1 (mem_del.1 hp).1)
          exact h1.2 (at_name hw.dir.ats (show (p.1, i) ∈ s.dir from hpi ▸ h1.1) (find_some hf))
        have hp := okPut hd t i (used_lt hw (find_used hf)) hni
        refine ⟨h.room, h.left, hp, h.sdir, h.safe, Int.le_trans hw.free (free_mono (s := s) rfl (nodup_all hp.ats h.sdir.ats) (fun j hj => hj.elim (fun e => ?_) .inr) (fun _ _ => Nat.le_refl _))⟩
        obtain ⟨p, hp, rfl⟩ := List.mem_map.1 e
        rcases mem_put.1 hp with rfl | ⟨hp, _⟩
        · exact find_used hf
        · exact .inl (List.mem_map.2 ⟨p, (mem_del.1 hp).1, rfl⟩)
theorem crash_safe {keep : Int} {f : F} (h : f.safe ≤ f.b.length) : (crashF keep f).safe ≤ (crashF keep f).b.length ∧ (crashF keep f).b.length ≤ f.b.length := by
  unfold crashF
  split <;> simp only [List.length_take] <;> omega
theorem file_crash {s : St} (hw : Wf s) (keep : Int) (i : Nat) : (s.crash keep).file i = if i < s.files.length then crashF keep (s.file i) else ⟨[], 0⟩ := by
  split
  · rename_i h; simp [St.crash, St.file, List.getElem?_map, List.getElem?_eq_getElem h]
  · rename_i h; exact file_out (by simp [St.crash]; omega)
theorem wf_crash {s : St} (hw : Wf s) (keep : Int) : Wf (s.crash keep) := by
  have hlen : (s.crash keep).files.length = s.files.length := by simp [St.crash]
  have hf : ∀ i, (s.crash keep).len i ≤ s.len i ∧ ((s.crash keep).file i).safe ≤ (s.crash keep).len i := fun i => by
    unfold St.len
    rw [file_crash hw]
    split
    · have := crash_safe (keep := keep) (hw.safe i); exact ⟨this.2, this.1⟩
    · simp
  refine ⟨hw.room, hw.left, by rw [hlen]; exact hw.sdir, by rw [hlen]; exact hw.sdir, fun i => (hf i).2, Int.le_trans hw.free (free_mono (s := s) rfl (nodup_all hw.sdir.ats hw.sdir.ats) (fun i hi => .inr (hi.elim id id)) (fun i _ => (hf i).1))⟩
theorem wf_cut {s : St} (hw : Wf s) (n : Bs) (k : Int) : Wf (s.cut n k).2 := by
  unfold St.cut
  split
  · exact wf_may hw
  · split
    · exact wf_may hw
    · rename_i i hf
      split
      · exact wf_may hw
      · rename_i hk
        have hi : i < s.files.length := used_lt hw (find_used hf)
        have hs := hw.safe i
        unfold St.len at hs hk
        have h1 : ((s.file i).b.take k.toNat).length = k.toNat := by rw [List.length_take]; omega
        exact wf_upd (wf_may hw) hi (by simp only [h1]; omega) (Int.le_trans hw.free (free_upd_le (s := s.may) (wf_may hw) hi (by simp only [h1]; unfold St.len; show _ ≤ (s.file i).b.length; omega)))
/-- Bytes laid: the room that they take. -/
theorem lay_free {s : St} (hw : Wf s) (n b : Bs) : (s.lay n b).free = s.free - b.length := by
  unfold St.lay
  cases hf : find s.dir n with
  | some i => exact free_upd_add hw (find_used hf) (by simp [St.len])
  | none =>
    simp only
    rw [free_eq, free_eq]
    have hdel : del s.dir n = s.dir := List.filter_eq_self.2 fun p hp => by
      have := find_none hf p.2
      simp only [Bool.not_eq_true', beq_eq_false_iff_ne]
      intro e; exact this (e ▸ hp)
    have hnew : s.files.length ∉ s.safe.map (·.2) := fun h => Nat.lt_irrefl _ (lk_lt hw.sdir h)
    have hperm : (put s.dir n s.files.length).Perm ((n, s.files.length) :: s.dir) := by unfold put; rw [hdel]; exact ins_perm _ _ _
    have hall : (St.all { s with files := s.files ++ [⟨b, 0⟩], dir := put s.dir n s.files.length }).Perm (s.files.length :: s.all) := by
      refine (List.perm_ext_iff_of_nodup (nodup_all (s := { s with files := s.files ++ [⟨b, 0⟩], dir := put s.dir n s.files.length }) ?_ hw.sdir.ats) ?_).2 fun i => ?_
      · exact ((hperm.map (·.2)).nodup_iff).2 (List.nodup_cons.2 ⟨fun h => Nat.lt_irrefl _ (lk_lt hw.dir h), hw.dir.ats⟩)
      · exact List.nodup_cons.2 ⟨fun h => Nat.lt_irrefl _ (used_lt hw (mem_all.1 h)), nodup_all hw.dir.ats hw.sdir.ats⟩
      · rw [mem_all, List.mem_cons, mem_all]
        unfold St.used
        simp only
        rw [(hperm.map (·.2)).mem_iff, List.map_cons, List.mem_cons]
        simp only [or_assoc]
    have e : sumL { s with files := s.files ++ [⟨b, 0⟩], dir := put s.dir n s.files.length } (St.all { s with files := s.files ++ [⟨b, 0⟩], dir := put s.dir n s.files.length }) = b.length + sumL s s.all := by
      unfold sumL
      rw [(hall.map _).sum_nat, List.map_cons, List.sum_cons]
      congr 1
      · simp [St.len, St.file]
      · congr 1
        refine List.map_congr_left fun i hi => ?_
        simp [St.len, St.file, List.getElem?_append_left (used_lt hw (mem_all.1 hi))]
    rw [e]
    show s.room - _ = _
    omega
theorem wf_lay {s : St} (hw : Wf s) (n b : Bs) (hb : (b.length : Int) ≤ s.free) : Wf (s.lay n b) := by
  have hfree := lay_free hw n b
  unfold St.lay at hfree ⊢
  cases hf : find s.dir n with
  | some i =>
    rw [hf] at hfree
    simp only at hfree ⊢
    have hi := used_lt hw (find_used hf)
    exact wf_upd hw hi (by have := hw.safe i; unfold St.len at this; simp; omega) (by rw [hfree]; omega)
  | none =>
    rw [hf] at hfree
    simp only at hfree ⊢
    refine ⟨hw.room, hw.left, ?_, okMono hw.sdir (by simp), fun i => ?_, by rw [hfree]; omega⟩
    · refine okPut (okMono hw.dir (by simp)) n _ (by simp) fun h => ?_
      obtain ⟨p, hp, e⟩ := List.mem_map.1 h
      have := hw.dir.lt p (mem_del.1 hp).1
      omega
    · unfold St.len
      by_cases hi : i < s.files.length
      · have := hw.safe i
        unfold St.len at this
        simpa [St.file, List.getElem?_append_left hi] using this
      · by_cases e : i = s.files.length
        · subst e; simp [St.file]
        · simp [St.file, List.getElem?_eq_none (show (s.files ++ [(⟨b, 0⟩ : F)]).length ≤ i by simp; omega)]
theorem wf_write {s : St} (hw : Wf s) (n b : Bs) : Wf (s.write n b).2 := by
  unfold St.write
  split
  · split
    · rename_i h
      refine wf_lay (wf_may hw) n _ ?_
      rw [List.length_take]
      have := h.2.2.2
      omega
    · exact wf_may hw
  · split
    · exact wf_may hw
    · split
      · exact wf_may hw
      · exact wf_lay (wf_may hw) n b (by omega)
end Go.Proofs.Ytcaipccgphblnaa.Dk
