/- disk: what a script of a law's operations cannot do: plain law. -/
import Derived.Test.YtcaipccgphblnaaName
namespace Go.Proofs.Ytcaipccgphblnaa.Dk
open Go.RowKit Go.WideMaps
set_option linter.unusedSimpArgs false
/-- "safe" -/
def sfn : Bs := [115, 97, 102, 101]
def NS : List Bs := [[102], [103], [104], sfn]
theorem nmOf_in (j : Nat) : ((nmOf j).data.toList ∈ NS ∨ (nmOf j).data.toList = []) ∧ (nmOf j).data.toList ≠ sfn := by
  unfold nmOf
  split <;> decide
theorem nameI_in (a : Int) : ((nameI a).data.toList ∈ NS ∨ (nameI a).data.toList = []) ∧ (nameI a).data.toList ≠ sfn := nmOf_in _
/-- A disk behind k operations: its names, how many files, how long. -/
structure Inv (k : Nat) (s : St) : Prop where
  names : ∀ p ∈ s.dir, p.1 ∈ NS
  snames : ∀ p ∈ s.safe, p.1 ∈ NS
  files : s.files.length ≤ k
  len : ∀ i, s.len i ≤ 1000 * k
theorem inv_mono {k k' : Nat} {s : St} (h : Inv k s) (hk : k ≤ k') : Inv k' s := ⟨h.names, h.snames, Nat.le_trans h.files hk, fun i => Nat.le_trans (h.len i) (Nat.mul_le_mul_left _ hk)⟩
theorem nodup_short {l : List Bs} (hn : l.Nodup) (hs : ∀ x ∈ l, x ∈ NS) : l.length ≤ 4 := by
  have : ∀ (l : List Bs) (m : List Bs), l.Nodup → (∀ x ∈ l, x ∈ m) → l.length ≤ m.length := by
    intro l
    induction l with
    | nil => intro m _ _; exact Nat.zero_le _
    | cons x r ih =>
      intro m hn hs
      rw [List.nodup_cons] at hn
      have hx : x ∈ m := hs x (by simp)
      have := ih (m.erase x) hn.2 (fun y hy => (List.mem_erase_of_ne (fun e => hn.1 (by rw [← e]; exact hy))).2 (hs y (by simp [hy])))
      rw [List.length_erase_of_mem hx] at this
      have := List.length_pos_of_mem hx
      simp; omega
  exact this l NS hn hs
theorem inv_small {k : Nat} {s : St} (h : Inv k s) (hw : Wf s) (hk : k ≤ 100) : Small s := by
  refine ⟨?_, ?_, by have := h.files; omega, fun i => by have := h.len i; omega⟩
  · have := nodup_short hw.dir.names (fun x hx => by obtain ⟨p, hp, rfl⟩ := List.mem_map.1 hx; exact h.names p hp)
    simp at this; omega
  · have := nodup_short hw.sdir.names (fun x hx => by obtain ⟨p, hp, rfl⟩ := List.mem_map.1 hx; exact h.snames p hp)
    simp at this; omega
theorem inv_new (room : Int) (k : Nat) : Inv k (newSt room) := ⟨by simp [newSt], by simp [newSt], by simp [newSt], fun i => by simp [St.len, St.file, newSt]⟩
theorem inv_may {k : Nat} {s : St} (h : Inv k s) : Inv k s.may := ⟨h.names, h.snames, h.files, h.len⟩
theorem inv_upd {k : Nat} {s : St} (h : Inv k s) (i : Nat) {f : F} (hf : f.b.length ≤ 1000 * k) : Inv k (s.upd i f) := by
  refine ⟨h.names, h.snames, by simpa [St.upd] using h.files, fun j => ?_⟩
  by_cases e : i = j
  · subst e
    by_cases hi : i < s.files.length
    · unfold St.len; rw [file_upd_same hi]; exact hf
    · unfold St.len; rw [file_out (by simp [St.upd]; omega)]; simp
  · unfold St.len; rw [file_upd_other e]; exact h.len j
theorem mem_del_names {l : Lk} {n : Bs} (h : ∀ p ∈ l, p.1 ∈ NS) : ∀ p ∈ del l n, p.1 ∈ NS := fun p hp => h p (mem_del.1 hp).1
theorem mem_put_names {l : Lk} {n : Bs} {i : Nat} (h : ∀ p ∈ l, p.1 ∈ NS) (hn : n ∈ NS) : ∀ p ∈ put l n i, p.1 ∈ NS := fun p hp => by
  rcases mem_put.1 hp with rfl | ⟨hp, _⟩
  · exact hn
  · exact h p hp
theorem inv_lay {k : Nat} {s : St} (h : Inv k s) {n b : Bs} (hn : n ∈ NS) (hb : b.length ≤ 1000) : Inv (k + 1) (s.lay n b) := by
  unfold St.lay
  split
  · rename_i i hf
    refine inv_upd (inv_mono h (by omega)) i ?_
    have := h.len i
    unfold St.len at this
    simp only [List.length_append]; omega
  · refine ⟨mem_put_names h.names hn, h.snames, by have := h.files; simp; omega, fun j => ?_⟩
    have := h.len j
    unfold St.len at this ⊢
    by_cases hj : j < s.files.length
    · have e : St.file { s with files := s.files ++ [⟨b, 0⟩], dir := put s.dir n s.files.length } j = s.file j := by simp [St.file, List.getElem?_append_left hj]
      rw [e]; omega
    · by_cases e : j = s.files.length
      · subst e
        have e2 : St.file { s with files := s.files ++ [⟨b, 0⟩], dir := put s.dir n s.files.length } s.files.length = ⟨b, 0⟩ := by simp [St.file]
        rw [e2]; simp only; omega
      · rw [file_out (by simp; omega)]; simp
theorem inv_write {k : Nat} {s : St} (h : Inv k s) {n b : Bs} (hn : n ∈ NS ∨ n = []) (hb : b.length ≤ 1000) : Inv (k + 1) (s.write n b).2 := by
  have h1 : Inv (k + 1) s.may := inv_mono (inv_may h) (by omega)
  unfold St.write
  split
  · split
    · rename_i hc
      exact inv_lay (inv_may h) (hn.resolve_right hc.2.1) (by rw [List.length_take]; omega)
    · exact h1
  · split
    · exact h1
    · rename_i hn0
      split
      · exact h1
      · exact inv_lay (inv_may h) (hn.resolve_right hn0) hb
theorem inv_crash {k : Nat} {s : St} (h : Inv k s) (hw : Wf s) (keep : Int) : Inv k (s.crash keep) := by
  refine ⟨h.snames, h.snames, by simpa [St.crash] using h.files, fun i => ?_⟩
  unfold St.len
  rw [file_crash hw]
  split
  · have := (crash_safe (keep := keep) (hw.safe i)).2
    have := h.len i
    unfold St.len at this
    omega
  · simp
theorem wf_play {s : St} (hw : Wf s) (o : Opr) (hn : -9223372036854775808 ≤ o.n ∧ o.n ≤ 9223372036854775807) : Wf (s.play o).2 := by
  unfold St.play
  split
  · exact wf_write hw _ _
  · exact wf_cut hw _ _
  · exact wf_sync hw _
  · exact wf_rename hw _ _
  · exact wf_remove hw _
  · exact wf_flush hw
  · exact wf_crash hw _
  · exact wf_fail hw hn
  · exact hw
theorem inv_play {k : Nat} {s : St} (h : Inv k s) (hw : Wf s) (o : Opr) (hd : o.d.length ≤ 1000) : Inv (k + 1) (s.play o).2 := by
  have h1 : Inv (k + 1) s.may := inv_mono (inv_may h) (by omega)
  have h0 : Inv (k + 1) s := inv_mono h (by omega)
  have hl : ∀ i, (s.file i).b.length ≤ 1000 * (k + 1) := fun i => h0.len i
  unfold St.play
  split
  · exact inv_write h (nameI_in o.a).1 hd
  · unfold St.cut
    split
    · exact h1
    · split
      · exact h1
      · split
        · exact h1
        · exact inv_upd h1 _ (by rw [List.length_take]; have := hl (by assumption); omega)
  · unfold St.sync
    split
    · exact h1
    · split
      · exact h1
      · exact inv_upd h1 _ (hl _)
  · unfold St.rename
    split
    · exact h1
    · split
      · exact h1
      · split
        · exact h1
        · rename_i hb
          exact ⟨mem_put_names (mem_del_names h.names) ((nameI_in o.c).1.resolve_right hb), h.snames, h0.files, h0.len⟩
  · unfold St.remove
    split
    · exact h1
    · split
      · exact h1
      · exact ⟨mem_del_names h.names, h.snames, h0.files, h0.len⟩
  · unfold St.flush
    split
    · exact h1
    · exact ⟨h.names, h.names, h0.files, h0.len⟩
  · exact inv_mono (inv_crash h hw _) (by omega)
  · exact ⟨h.names, h.snames, h0.files, h0.len⟩
  · exact h0
/-- A file that was synced under a name that was flushed. -/
structure Keeps (x : Bs) (s : St) : Prop where
  dir : (sfn, 0) ∈ s.dir
  safe : (sfn, 0) ∈ s.safe
  file : s.file 0 = ⟨x, x.length⟩
section
variable {x : Bs} {s : St}
theorem keeps_may (h : Keeps x s) : Keeps x s.may := ⟨h.dir, h.safe, h.file⟩
theorem keeps_ne (h : Keeps x s) (hw : Wf s) {n : Bs} {i : Nat} (hf : find s.dir n = some i) (hn : n ≠ sfn) : i ≠ 0 := fun e => by
  subst e
  exact hn (at_name hw.dir.ats (find_some hf) h.dir)
theorem keeps_upd (h : Keeps x s) {i : Nat} (hi : i ≠ 0) (f : F) : Keeps x (s.upd i f) := ⟨h.dir, h.safe, by rw [file_upd_other hi]; exact h.file⟩
theorem keeps_pos (h : Keeps x s) (hw : Wf s) : 0 < s.files.length := hw.dir.lt _ h.dir
theorem keeps_lay (h : Keeps x s) (hw : Wf s) {n b : Bs} (hn : n ≠ sfn) : Keeps x (s.lay n b) := by
  unfold St.lay
  split
  · rename_i i hf
    exact keeps_upd h (keeps_ne h hw hf hn) _
  · refine ⟨mem_put.2 (.inr ⟨h.dir, fun e => hn e.symm⟩), h.safe, ?_⟩
    rw [← h.file]
    unfold St.file
    rw [List.getElem?_append_left (keeps_pos h hw)]
theorem crash_whole {keep : Int} {x : Bs} : crashF keep ⟨x, x.length⟩ = ⟨x, x.length⟩ := by
  unfold crashF
  split <;> simp
theorem keeps_crash (h : Keeps x s) (hw : Wf s) (keep : Int) : Keeps x (s.crash keep) := by
  refine ⟨h.safe, h.safe, ?_⟩
  rw [file_crash hw, if_pos (keeps_pos h hw), h.file, crash_whole]
theorem keeps_play (h : Keeps x s) (hw : Wf s) (o : Opr) : Keeps x (s.play o).2 := by
  have hna := (nameI_in o.a).2
  have hnc := (nameI_in o.c).2
  unfold St.play
  split
  · unfold St.write
    split
    · split
      · exact keeps_lay (keeps_may h) (wf_may hw) hna
      · exact keeps_may h
    · split
      · exact keeps_may h
      · split
        · exact keeps_may h
        · exact keeps_lay (keeps_may h) (wf_may hw) hna
  · unfold St.cut
    split
    · exact keeps_may h
    · split
      · exact keeps_may h
      · rename_i i hf
        split
        · exact keeps_may h
        · exact keeps_upd (keeps_may h) (keeps_ne h hw hf hna) _
  · unfold St.sync
    split
    · exact keeps_may h
    · split
      · exact keeps_may h
      · rename_i i hf
        exact keeps_upd (keeps_may h) (keeps_ne h hw hf hna) _
  · unfold St.rename
    split
    · exact keeps_may h
    · split
      · exact keeps_may h
      · split
        · exact keeps_may h
        · exact ⟨mem_put.2 (.inr ⟨mem_del.2 ⟨h.dir, fun e => hna e.symm⟩, fun e => hnc e.symm⟩), h.safe, h.file⟩
  · unfold St.remove
    split
    · exact keeps_may h
    · split
      · exact keeps_may h
      · exact ⟨mem_del.2 ⟨h.dir, fun e => hna e.symm⟩, h.safe, h.file⟩
  · unfold St.flush
    split
    · exact keeps_may h
    · exact ⟨h.dir, h.dir, h.file⟩
  · exact keeps_crash h hw _
  · exact ⟨h.dir, h.safe, h.file⟩
  · exact h
/-- What is read behind a crash. -/
theorem keeps_read (h : Keeps x s) (hw : Wf s) : find s.dir sfn = some 0 ∧ (s.file 0).b = x := ⟨find_of_mem hw.dir.names h.dir, by rw [h.file]⟩
end
/-- The disk behind the law's first three calls. -/
theorem safe_start (x : Bs) (hx : x.length ≤ 500) : Keeps x ((((newSt 1048576).write sfn x).2.sync sfn).2.flush).2 ∧ Inv 1 ((((newSt 1048576).write sfn x).2.sync sfn).2.flush).2 := by
  have hf : (newSt 1048576).may.free = 1048576 := by simp [newSt, St.may, St.free, St.gone, sumL]
  have h1 : (newSt 1048576).write sfn x = (0, ⟨1048576, [⟨x, 0⟩], [(sfn, 0)], [], false, 0, false⟩) := by
    unfold St.write
    rw [if_neg (by simp [St.ok, mayS, newSt]), if_neg (by simp [sfn]), if_neg (by rw [hf]; omega)]
    simp [St.lay, St.may, newSt, find, put, del, ins, mayS]
  have h2 : (((newSt 1048576).write sfn x).2.sync sfn).2 = ⟨1048576, [⟨x, x.length⟩], [(sfn, 0)], [], false, 0, false⟩ := by
    rw [h1]; simp [St.sync, St.ok, mayS, find, St.may, St.upd, St.file, St.len]
  have h3 : ((((newSt 1048576).write sfn x).2.sync sfn).2.flush).2 = ⟨1048576, [⟨x, x.length⟩], [(sfn, 0)], [(sfn, 0)], false, 0, false⟩ := by
    rw [h2]; simp [St.flush, St.ok, mayS, St.may]
  rw [h3]
  refine ⟨⟨by simp, by simp, by simp [St.file]⟩, ⟨by simp [NS], by simp [NS], by simp, fun i => ?_⟩⟩
  match i with
  | 0 => simp [St.len, St.file]; omega
  | i + 1 => simp [St.len, St.file]
end Go.Proofs.Ytcaipccgphblnaa.Dk
