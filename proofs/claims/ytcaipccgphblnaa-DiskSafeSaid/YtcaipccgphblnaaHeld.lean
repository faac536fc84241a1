/- disk: the calls as a law sees them: a disk held in blocks of the call's own. -/
import Derived.Test.YtcaipccgphblnaaCrash
namespace Go.Proofs.Ytcaipccgphblnaa.Dk
open Go.RowKit Go.WideMaps Go.Proofs.YtcaipccgphblnaaW.PrintWords
set_option linter.unusedSimpArgs false
/-- A disk of the call's own: all its blocks are new since w0; nothing that lay then has turned. -/
structure Held (w0 : World) (st : St) (b : Nat) (w : World) : Prop where
  lies : ∃ L fp, At L st fp b w ∧ ∀ k, fp k → w0.heap.size ≤ k
  below : Below w0.heap.size w0 w
  wf : Wf st
section
variable {w0 w : World} {st : St} {b : Nat}
theorem Held.lt (h : Held w0 st b w) : w0.heap.size ≤ b ∧ b < w.heap.size := by
  obtain ⟨L, fp, hA, hf⟩ := h.lies
  exact ⟨hf b hA.fpb, hA.lt_b⟩
theorem Held.more (h : Held w0 st b w) {w' : World} (hb : Below w.heap.size w w') : Held w0 st b w' := by
  obtain ⟨L, fp, hA, hf⟩ := h.lies
  exact ⟨⟨L, fp, hA.below hb, hf⟩, h.below.trans (hb.mono h.below.size), h.wf⟩
theorem Held.alloc (h : Held w0 st b w) (o : Obj) : Held w0 st b (w.alloc o) := h.more ((Below.refl _ _).alloc (Nat.le_refl _) o)
theorem held_nx (h : Below w0.heap.size w0 w) {fp : Nat → Prop} (hf : ∀ k, fp k → w0.heap.size ≤ k) {st' : St} {w' : World} (hx : Nx st' fp b w w') (hw : Wf st') : Held w0 st' b w' := by
  obtain ⟨⟨L', hA⟩, hF⟩ := hx
  exact ⟨⟨L', _, hA, fun k hk => hk.elim (hf k) (fun e => Nat.le_trans h.size e.1)⟩, h.trans ⟨hF.os, hF.tape, hF.output, hF.size, fun k hk => hF.block k (Nat.lt_of_lt_of_le hk h.size) (fun e => by have := hf k e; omega)⟩, hw⟩
theorem len_le_room (hw : Wf st) {i : Nat} (hi : st.used i) : (st.len i : Int) ≤ st.room := by
  have h1 := hw.free
  rw [free_eq] at h1
  have h2 : ([i].map st.len).sum ≤ (st.all.map st.len).sum := sum_le (by simp) (by simpa using mem_all.2 hi) (fun _ _ => Nat.le_refl _)
  unfold sumL at h1
  simp at h2
  omega
theorem new_held (n : Int) (hn : 0 ≤ n ∧ n ≤ 9223372036854775807) (h : Below w0.heap.size w0 w) :
    Calls Try.prog 8 #[.int .i64 n] w fun e w' => e = .returned (.tuple #[.pointer (some ⟨w.heap.size + 2, 0, none⟩), .int .i64 0]) ∧ Held w0 (newSt n) (w.heap.size + 2) w' :=
  (new_at n hn.1 w).mono fun _ _ ⟨L, he, hA, hb⟩ => ⟨he, ⟨L, _, hA, fun k hk => Nat.le_trans h.size hk.1⟩, h.trans (hb.mono h.size), wf_new hn⟩
theorem write_held (h : Held w0 st b w) (n : ByteArray) (hn : n.size ≤ maxLen) (x : Value) (ys : Bs) (hx : Src w x ys) (hl0 : ys.length ≤ 140737488355328) (hl : ∀ i, st.used i → st.len i + ys.length ≤ 140737488355328) (hfew : st.dir.length ≤ 1000000000) :
    Calls Try.prog 9 #[.pointer (some ⟨b, 0, none⟩), .string n, x] w fun e w' => e = .returned (.int .i64 (st.write n.data.toList ys).1) ∧ Held w0 (st.write n.data.toList ys).2 b w' := by
  obtain ⟨L, fp, hA, hf⟩ := h.lies
  exact (write_at hA h.wf n hn x ys hx hl0 hl hfew).mono fun _ _ ⟨he, hx⟩ => ⟨he, held_nx h.below hf hx (wf_write h.wf _ _)⟩
theorem free_held (h : Held w0 st b w) (hfew : st.dir.length ≤ 1000000000) :
    Calls Try.prog 10 #[.pointer (some ⟨b, 0, none⟩)] w fun e w' => e = .returned (.int .i64 st.free) ∧ Held w0 st b w' := by
  obtain ⟨L, fp, hA, hf⟩ := h.lies
  exact (free_at hA h.wf hfew).mono fun _ _ ⟨he, hb⟩ => ⟨he, h.more hb⟩
theorem sync_held (h : Held w0 st b w) (n : ByteArray) (hn : n.size ≤ maxLen) :
    Calls Try.prog 13 #[.pointer (some ⟨b, 0, none⟩), .string n] w fun e w' => e = .returned (.int .i64 (st.sync n.data.toList).1) ∧ Held w0 (st.sync n.data.toList).2 b w' := by
  obtain ⟨L, fp, hA, hf⟩ := h.lies
  exact (sync_at hA h.wf n hn).mono fun _ _ ⟨he, hx⟩ => ⟨he, held_nx h.below hf hx (wf_sync h.wf _)⟩
theorem remove_held (h : Held w0 st b w) (n : ByteArray) (hn : n.size ≤ maxLen) :
    Calls Try.prog 12 #[.pointer (some ⟨b, 0, none⟩), .string n] w fun e w' => e = .returned (.int .i64 (st.remove n.data.toList).1) ∧ Held w0 (st.remove n.data.toList).2 b w' := by
  obtain ⟨L, fp, hA, hf⟩ := h.lies
  exact (remove_at hA h.wf n hn).mono fun _ _ ⟨he, hx⟩ => ⟨he, held_nx h.below hf hx (wf_remove h.wf _)⟩
theorem rename_held (h : Held w0 st b w) (n t : ByteArray) (hn : n.size ≤ maxLen) (ht : t.size ≤ maxLen) (hfew : st.dir.length ≤ 1000000000) :
    Calls Try.prog 15 #[.pointer (some ⟨b, 0, none⟩), .string n, .string t] w fun e w' => e = .returned (.int .i64 (st.rename n.data.toList t.data.toList).1) ∧ Held w0 (st.rename n.data.toList t.data.toList).2 b w' := by
  obtain ⟨L, fp, hA, hf⟩ := h.lies
  exact (rename_at hA h.wf n t hn ht (by unfold maxLen; omega)).mono fun _ _ ⟨he, hx⟩ => ⟨he, held_nx h.below hf hx (wf_rename h.wf _ _)⟩
theorem flush_held (h : Held w0 st b w) :
    Calls Try.prog 11 #[.pointer (some ⟨b, 0, none⟩)] w fun e w' => e = .returned (.int .i64 st.flush.1) ∧ Held w0 st.flush.2 b w' := by
  obtain ⟨L, fp, hA, hf⟩ := h.lies
  exact (flush_at hA h.wf).mono fun _ _ ⟨he, hx⟩ => ⟨he, held_nx h.below hf hx (wf_flush h.wf)⟩
theorem fail_held (h : Held w0 st b w) (n : Int) (hn : -9223372036854775808 ≤ n ∧ n ≤ 9223372036854775807) :
    Calls Try.prog 14 #[.pointer (some ⟨b, 0, none⟩), .int .i64 n] w fun e w' => e = .returned (.tuple #[]) ∧ Held w0 (st.fail n) b w' := by
  obtain ⟨L, fp, hA, hf⟩ := h.lies
  exact (fail_at hA n).mono fun _ _ ⟨he, hx⟩ => ⟨he, held_nx h.below hf hx (wf_fail h.wf hn)⟩
theorem crash_held (h : Held w0 st b w) (keep : Int) :
    Calls Try.prog 16 #[.pointer (some ⟨b, 0, none⟩), .int .i64 keep] w fun e w' => e = .returned (.tuple #[]) ∧ Held w0 (st.crash keep) b w' := by
  obtain ⟨L, fp, hA, hf⟩ := h.lies
  exact (crash_at hA h.wf keep).mono fun _ _ ⟨he, hx⟩ => ⟨he, held_nx h.below hf hx (wf_crash h.wf _)⟩
theorem read_held_none (h : Held w0 st b w) (n : ByteArray) (hn : n.size ≤ maxLen) (hf : find st.dir n.data.toList = none) :
    Calls Try.prog 17 #[.pointer (some ⟨b, 0, none⟩), .string n] w fun e w' => e = .returned (.tuple #[.slice none 0 0, .int .i64 172]) ∧ w' = w := by
  obtain ⟨L, fp, hA, _⟩ := h.lies
  exact read_none hA n hn hf
theorem read_held (h : Held w0 st b w) (n : ByteArray) (hn : n.size ≤ maxLen) {i : Nat} (hf : find st.dir n.data.toList = some i) (hl : st.len i ≤ 140737488355328) :
    Calls Try.prog 17 #[.pointer (some ⟨b, 0, none⟩), .string n] w fun e w' => ∃ v, e = .returned (.tuple #[v, .int .i64 0]) ∧ Row w' v (st.file i).b ∧ (∀ g, v.ownBlock = some g → w.heap.size ≤ g) ∧ Held w0 st b w' := by
  obtain ⟨L, fp, hA, _⟩ := h.lies
  exact (read_found hA n hn hf hl).mono fun _ _ ⟨v, he, h1, h2, h3⟩ => ⟨v, he, h1, h2, h.more h3⟩
/-- 'make([]byte, k)'. -/
theorem src_made (w : World) (k : Nat) (hk : k ≤ maxLen) : Src (w.alloc (.cells (Array.replicate k (.int .u8 0)) 5)) (.slice (some ⟨w.heap.size, 0, none⟩) k k) (List.replicate k 0) := by
  refine .inr ⟨⟨w.heap.size, 0, none⟩, k, by simp, by simp [hk], fun j c hj => ?_⟩
  have hadd : (⟨w.heap.size, 0, none⟩ : Addr).add j = ⟨w.heap.size, j, none⟩ := by unfold Addr.add; split <;> simp_all
  rw [hadd, cell_of_row _ w.heap.size j _ 5 (0, 0) (heap_alloc_new w _)]
  rw [List.getElem?_replicate] at hj
  split at hj
  · rename_i h; cases hj; simp [h]
  · cases hj
end
end Go.Proofs.Ytcaipccgphblnaa.Dk
