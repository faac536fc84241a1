/- disk: the program's disk and the document's, beside each other. -/
import Derived.Test.YtcaipccgphblnaaRefCrash
import Derived.Test.YtcaipccgphblnaaCut
namespace Go.Proofs.Ytcaipccgphblnaa.Dk
open Go.RowKit Go.WideMaps Go.Proofs.YtcaipccgphblnaaW.PrintWords
set_option linter.unusedSimpArgs false
/-- What a script may not grow beyond. -/
structure Small (s : St) : Prop where
  dir : s.dir.length ≤ 1000
  safe : s.safe.length ≤ 1000
  files : s.files.length ≤ 1000
  len : ∀ i, s.len i ≤ 100000000
/-- Both disks, of blocks of their own; the blocks in K are neither's. -/
def Pair (K : Nat → Prop) (st : St) (b : Nat) (st2 : St) (b2 : Nat) (w : World) : Prop :=
  ∃ L fp R fp2, (At L st fp b w ∧ RAt R st2 fp2 b2 w) ∧ ((∀ k, fp k → ¬ K k) ∧ (∀ k, fp2 k → ¬ K k) ∧ (∀ k, fp k → ¬ fp2 k) ∧ ∀ k, K k → k < w.heap.size) ∧ Wf st ∧ Wf st2
/-- The blocks in K are as they were. -/
structure Kf (K : Nat → Prop) (w w' : World) : Prop where
  os : w'.os = w.os
  tape : w'.tape = w.tape
  output : w'.output = w.output
  size : w.heap.size ≤ w'.heap.size
  block : ∀ k, K k → w'.heap[k]? = w.heap[k]?
section
variable {K : Nat → Prop} {st st2 : St} {b b2 : Nat} {w : World}
theorem Kf.refl (K : Nat → Prop) (w : World) : Kf K w w := ⟨rfl, rfl, rfl, Nat.le_refl _, fun _ _ => rfl⟩
theorem Kf.trans {w1 w2 : World} (h : Kf K w w1) (k : Kf K w1 w2) : Kf K w w2 :=
  ⟨k.os.trans h.os, k.tape.trans h.tape, k.output.trans h.output, Nat.le_trans h.size k.size, fun q hq => (k.block q hq).trans (h.block q hq)⟩
theorem Kf.mono {K' : Nat → Prop} {w' : World} (h : Kf K w w') (hk : ∀ k, K' k → K k) : Kf K' w w' := ⟨h.os, h.tape, h.output, h.size, fun q hq => h.block q (hk q hq)⟩
theorem Kf.of_below {w' : World} (h : Below w.heap.size w w') (hK : ∀ k, K k → k < w.heap.size) : Kf K w w' := ⟨h.os, h.tape, h.output, h.size, fun q hq => h.block q (hK q hq)⟩
theorem Kf.cell {w' : World} (h : Kf K w w') {p : Addr} (hp : K p.block) : w'.cell? p = w.cell? p := World.cell?_of_block (h.block _ hp)
theorem Pair.lt (h : Pair K st b st2 b2 w) : ∀ k, K k → k < w.heap.size := by obtain ⟨L, fp, R, fp2, _, ⟨_, _, _, h4⟩, _⟩ := h; exact h4
theorem Pair.wf (h : Pair K st b st2 b2 w) : Wf st := by obtain ⟨L, fp, R, fp2, _, _, h5, _⟩ := h; exact h5
theorem Pair.wf2 (h : Pair K st b st2 b2 w) : Wf st2 := by obtain ⟨L, fp, R, fp2, _, _, _, h5⟩ := h; exact h5
theorem Pair.mono {K' : Nat → Prop} (h : Pair K st b st2 b2 w) (hk : ∀ k, K' k → K k) : Pair K' st b st2 b2 w := by
  obtain ⟨L, fp, R, fp2, hA, ⟨h1, h2, h3, h4⟩, h5⟩ := h
  exact ⟨L, fp, R, fp2, hA, ⟨fun k a c => h1 k a (hk k c), fun k a c => h2 k a (hk k c), h3, fun k c => h4 k (hk k c)⟩, h5⟩
/-- New blocks: K takes them up. -/
theorem Pair.below (h : Pair K st b st2 b2 w) {w' : World} (hb : Below w.heap.size w w') : Pair (fun k => K k ∨ (w.heap.size ≤ k ∧ k < w'.heap.size)) st b st2 b2 w' := by
  obtain ⟨L, fp, R, fp2, hA, ⟨h1, h2, h3, h4⟩, h5⟩ := h
  refine ⟨L, fp, R, fp2, ⟨hA.1.below hb, hA.2.below hb⟩, ⟨fun k a c => c.elim (h1 k a) (fun e => ?_), fun k a c => c.elim (h2 k a) (fun e => ?_), h3, fun k c => c.elim (fun e => Nat.lt_of_lt_of_le (h4 k e) hb.size) (fun e => e.2)⟩, h5⟩
  · have := hA.1.fpl k a; omega
  · have := hA.2.fpl k a; omega
/-- A cell of a block of K's has turned. -/
theorem Pair.poke (h : Pair K st b st2 b2 w) {p : Addr} (hp : K p.block) (v : Value) : Pair K st b st2 b2 (w.setCell p v) := by
  obtain ⟨L, fp, R, fp2, hA, ⟨h1, h2, h3, h4⟩, h5⟩ := h
  exact ⟨L, fp, R, fp2, ⟨hA.1.keep (by simp) fun k hk => Below.heap_setCell _ _ _ k (fun e => h1 k hk (e ▸ hp)), hA.2.keep (by simp) fun k hk => Below.heap_setCell _ _ _ k (fun e => h2 k hk (e ▸ hp))⟩, ⟨h1, h2, h3, fun k hk => by simpa using h4 k hk⟩, h5⟩
theorem pair_nx {st' : St} {w' : World} {L : Lay} {fp : Nat → Prop} {R : RLay} {fp2 : Nat → Prop} (hA : At L st fp b w ∧ RAt R st2 fp2 b2 w) (hK : (∀ k, fp k → ¬ K k) ∧ (∀ k, fp2 k → ¬ K k) ∧ (∀ k, fp k → ¬ fp2 k) ∧ ∀ k, K k → k < w.heap.size) (h2 : Wf st2) (hx : Nx st' fp b w w') (hw : Wf st') :
    Pair K st' b st2 b2 w' ∧ Kf K w w' := by
  obtain ⟨⟨L', hA'⟩, hF⟩ := hx
  obtain ⟨k1, k2, k3, k4⟩ := hK
  refine ⟨⟨L', _, R, fp2, ⟨hA', hA.2.keep hF.size fun k hk => hF.block k (hA.2.fpl k hk) (fun e => k3 k e hk)⟩, ⟨fun k a c => a.elim (fun e => k1 k e c) (fun e => by have := k4 k c; omega), k2, fun k a c => a.elim (fun e => k3 k e c) (fun e => by have := hA.2.fpl k c; omega), fun k c => Nat.lt_of_lt_of_le (k4 k c) hF.size⟩, hw, h2⟩, ?_⟩
  exact ⟨hF.os, hF.tape, hF.output, hF.size, fun q hq => hF.block q (k4 q hq) (fun e => k1 q e hq)⟩
theorem pair_rnx {st' : St} {w' : World} {L : Lay} {fp : Nat → Prop} {R : RLay} {fp2 : Nat → Prop} (hA : At L st fp b w ∧ RAt R st2 fp2 b2 w) (hK : (∀ k, fp k → ¬ K k) ∧ (∀ k, fp2 k → ¬ K k) ∧ (∀ k, fp k → ¬ fp2 k) ∧ ∀ k, K k → k < w.heap.size) (h1 : Wf st) (hx : RNx st' fp2 b2 w w') (hw : Wf st') :
    Pair K st b st' b2 w' ∧ Kf K w w' := by
  obtain ⟨⟨R', hA'⟩, hF⟩ := hx
  obtain ⟨k1, k2, k3, k4⟩ := hK
  refine ⟨⟨L, fp, R', _, ⟨hA.1.keep hF.size fun k hk => hF.block k (hA.1.fpl k hk) (fun e => k3 k hk e), hA'⟩, ⟨k1, fun k a c => a.elim (fun e => k2 k e c) (fun e => by have := k4 k c; omega), fun k a c => c.elim (fun e => k3 k a e) (fun e => by have := hA.1.fpl k a; omega), fun k c => Nat.lt_of_lt_of_le (k4 k c) hF.size⟩, h1, hw⟩, ?_⟩
  exact ⟨hF.os, hF.tape, hF.output, hF.size, fun q hq => hF.block q (k4 q hq) (fun e => k2 q e hq)⟩
/-- The bytes at v lie in K's blocks. -/
def Lies (K : Nat → Prop) (v : Value) : Prop := ∀ a n k, v = .slice (some a) n k → n ≠ 0 → K a.block
theorem Src.kf {v : Value} {ys : Bs} (h : Src w v ys) (hl : Lies K v) {w' : World} (hk : Kf K w w') : Src w' v ys := by
  rcases h with h | ⟨a, cap, rfl, hcp, hc⟩
  · exact .inl h
  · refine .inr ⟨a, cap, rfl, hcp, fun j c hj => (hk.cell ?_).trans (hc j c hj)⟩
    rw [add_block]
    exact hl a _ _ rfl (fun e => by rw [List.eq_nil_of_length_eq_zero e] at hj; cases hj)
theorem pair_write (h : Pair K st b st2 b2 w) (hs : Small st) (n : ByteArray) (hn : n.size ≤ maxLen) (x : Value) (ys : Bs) (hx : Src w x ys) (hl : ys.length ≤ 1000000) :
    Calls Try.prog 9 #[.pointer (some ⟨b, 0, none⟩), .string n, x] w fun e w' => e = .returned (.int .i64 (st.write n.data.toList ys).1) ∧ Pair K (st.write n.data.toList ys).2 b st2 b2 w' ∧ Kf K w w' := by
  obtain ⟨L, fp, R, fp2, hA, hK, h1, h2⟩ := h
  exact (write_at hA.1 h1 n hn x ys hx (by omega) (fun i _ => by have := hs.len i; omega) (by have := hs.dir; omega)).mono fun _ _ ⟨he, hx⟩ => ⟨he, pair_nx hA hK h2 hx (wf_write h1 _ _)⟩
theorem pair_write2 (h : Pair K st b st2 b2 w) (hs : Small st2) (n : ByteArray) (x : Value) (ys : Bs) (hx : Src w x ys) (hlx : Lies K x) (hl : ys.length ≤ 1000000) :
    Calls Try.prog 34 #[.pointer (some ⟨b2, 0, none⟩), .string n, x] w fun e w' => e = .returned (.int .i64 (st2.write n.data.toList ys).1) ∧ Pair K st b (st2.write n.data.toList ys).2 b2 w' ∧ Kf K w w' := by
  obtain ⟨L, fp, R, fp2, hA, hK, h1, h2⟩ := h
  exact (ref_write hA.2 h2 n x ys hx (fun a m k e hm hf => hK.2.1 _ hf (hlx a m k e hm)) (by omega) (fun i _ => by have := hs.len i; omega) ⟨by have := hs.dir; omega, by have := hs.safe; omega, by have := hs.files; omega⟩).mono fun _ _ ⟨he, hx⟩ => ⟨he, pair_rnx hA hK h1 hx (wf_write h2 _ _)⟩
theorem pair_cut (h : Pair K st b st2 b2 w) (hs : Small st) (n : ByteArray) (hn : n.size ≤ maxLen) (k : Int) :
    Calls Try.prog 35 #[.pointer (some ⟨b, 0, none⟩), .string n, .int .i64 k] w fun e w' => e = .returned (.int .i64 (st.cut n.data.toList k).1) ∧ Pair K (st.cut n.data.toList k).2 b st2 b2 w' ∧ Kf K w w' := by
  obtain ⟨L, fp, R, fp2, hA, hK, h1, h2⟩ := h
  exact (cut_at hA.1 h1 n hn k (fun i _ => by have := hs.len i; omega)).mono fun _ _ ⟨he, hx⟩ => ⟨he, pair_nx hA hK h2 hx (wf_cut h1 _ _)⟩
theorem pair_cut2 (h : Pair K st b st2 b2 w) (hs : Small st2) (n : ByteArray) (k : Int) :
    Calls Try.prog 36 #[.pointer (some ⟨b2, 0, none⟩), .string n, .int .i64 k] w fun e w' => e = .returned (.int .i64 (st2.cut n.data.toList k).1) ∧ Pair K st b (st2.cut n.data.toList k).2 b2 w' ∧ Kf K w w' := by
  obtain ⟨L, fp, R, fp2, hA, hK, h1, h2⟩ := h
  exact (ref_cut hA.2 h2 n k (by have := hs.dir; omega) (fun i _ => by have := hs.len i; omega)).mono fun _ _ ⟨he, hx⟩ => ⟨he, pair_rnx hA hK h1 hx (wf_cut h2 _ _)⟩
theorem pair_sync (h : Pair K st b st2 b2 w) (n : ByteArray) (hn : n.size ≤ maxLen) :
    Calls Try.prog 13 #[.pointer (some ⟨b, 0, none⟩), .string n] w fun e w' => e = .returned (.int .i64 (st.sync n.data.toList).1) ∧ Pair K (st.sync n.data.toList).2 b st2 b2 w' ∧ Kf K w w' := by
  obtain ⟨L, fp, R, fp2, hA, hK, h1, h2⟩ := h
  exact (sync_at hA.1 h1 n hn).mono fun _ _ ⟨he, hx⟩ => ⟨he, pair_nx hA hK h2 hx (wf_sync h1 _)⟩
theorem pair_sync2 (h : Pair K st b st2 b2 w) (hs : Small st2) (n : ByteArray) :
    Calls Try.prog 37 #[.pointer (some ⟨b2, 0, none⟩), .string n] w fun e w' => e = .returned (.int .i64 (st2.sync n.data.toList).1) ∧ Pair K st b (st2.sync n.data.toList).2 b2 w' ∧ Kf K w w' := by
  obtain ⟨L, fp, R, fp2, hA, hK, h1, h2⟩ := h
  exact (ref_sync hA.2 h2 n (by have := hs.dir; omega)).mono fun _ _ ⟨he, hx⟩ => ⟨he, pair_rnx hA hK h1 hx (wf_sync h2 _)⟩
theorem pair_remove (h : Pair K st b st2 b2 w) (n : ByteArray) (hn : n.size ≤ maxLen) :
    Calls Try.prog 12 #[.pointer (some ⟨b, 0, none⟩), .string n] w fun e w' => e = .returned (.int .i64 (st.remove n.data.toList).1) ∧ Pair K (st.remove n.data.toList).2 b st2 b2 w' ∧ Kf K w w' := by
  obtain ⟨L, fp, R, fp2, hA, hK, h1, h2⟩ := h
  exact (remove_at hA.1 h1 n hn).mono fun _ _ ⟨he, hx⟩ => ⟨he, pair_nx hA hK h2 hx (wf_remove h1 _)⟩
theorem pair_remove2 (h : Pair K st b st2 b2 w) (hs : Small st2) (n : ByteArray) :
    Calls Try.prog 39 #[.pointer (some ⟨b2, 0, none⟩), .string n] w fun e w' => e = .returned (.int .i64 (st2.remove n.data.toList).1) ∧ Pair K st b (st2.remove n.data.toList).2 b2 w' ∧ Kf K w w' := by
  obtain ⟨L, fp, R, fp2, hA, hK, h1, h2⟩ := h
  exact (ref_remove hA.2 h2 n (by have := hs.dir; omega)).mono fun _ _ ⟨he, hx⟩ => ⟨he, pair_rnx hA hK h1 hx (wf_remove h2 _)⟩
theorem pair_rename (h : Pair K st b st2 b2 w) (hs : Small st) (n t : ByteArray) (hn : n.size ≤ maxLen) (ht : t.size ≤ maxLen) :
    Calls Try.prog 15 #[.pointer (some ⟨b, 0, none⟩), .string n, .string t] w fun e w' => e = .returned (.int .i64 (st.rename n.data.toList t.data.toList).1) ∧ Pair K (st.rename n.data.toList t.data.toList).2 b st2 b2 w' ∧ Kf K w w' := by
  obtain ⟨L, fp, R, fp2, hA, hK, h1, h2⟩ := h
  exact (rename_at hA.1 h1 n t hn ht (by have := hs.dir; unfold maxLen; omega)).mono fun _ _ ⟨he, hx⟩ => ⟨he, pair_nx hA hK h2 hx (wf_rename h1 _ _)⟩
theorem pair_rename2 (h : Pair K st b st2 b2 w) (hs : Small st2) (n t : ByteArray) :
    Calls Try.prog 38 #[.pointer (some ⟨b2, 0, none⟩), .string n, .string t] w fun e w' => e = .returned (.int .i64 (st2.rename n.data.toList t.data.toList).1) ∧ Pair K st b (st2.rename n.data.toList t.data.toList).2 b2 w' ∧ Kf K w w' := by
  obtain ⟨L, fp, R, fp2, hA, hK, h1, h2⟩ := h
  exact (ref_rename hA.2 h2 n t (by have := hs.dir; omega)).mono fun _ _ ⟨he, hx⟩ => ⟨he, pair_rnx hA hK h1 hx (wf_rename h2 _ _)⟩
theorem pair_flush (h : Pair K st b st2 b2 w) :
    Calls Try.prog 11 #[.pointer (some ⟨b, 0, none⟩)] w fun e w' => e = .returned (.int .i64 st.flush.1) ∧ Pair K st.flush.2 b st2 b2 w' ∧ Kf K w w' := by
  obtain ⟨L, fp, R, fp2, hA, hK, h1, h2⟩ := h
  exact (flush_at hA.1 h1).mono fun _ _ ⟨he, hx⟩ => ⟨he, pair_nx hA hK h2 hx (wf_flush h1)⟩
theorem pair_flush2 (h : Pair K st b st2 b2 w) (hs : Small st2) :
    Calls Try.prog 40 #[.pointer (some ⟨b2, 0, none⟩)] w fun e w' => e = .returned (.int .i64 st2.flush.1) ∧ Pair K st b st2.flush.2 b2 w' ∧ Kf K w w' := by
  obtain ⟨L, fp, R, fp2, hA, hK, h1, h2⟩ := h
  exact (ref_flush hA.2 h2 (by have := hs.dir; omega)).mono fun _ _ ⟨he, hx⟩ => ⟨he, pair_rnx hA hK h1 hx (wf_flush h2)⟩
theorem pair_crash (h : Pair K st b st2 b2 w) (k : Int) :
    Calls Try.prog 16 #[.pointer (some ⟨b, 0, none⟩), .int .i64 k] w fun e w' => e = .returned (.tuple #[]) ∧ Pair K (st.crash k) b st2 b2 w' ∧ Kf K w w' := by
  obtain ⟨L, fp, R, fp2, hA, hK, h1, h2⟩ := h
  exact (crash_at hA.1 h1 k).mono fun _ _ ⟨he, hx⟩ => ⟨he, pair_nx hA hK h2 hx (wf_crash h1 _)⟩
theorem pair_crash2 (h : Pair K st b st2 b2 w) (hs : Small st2) (k : Int) :
    Calls Try.prog 41 #[.pointer (some ⟨b2, 0, none⟩), .int .i64 k] w fun e w' => e = .returned (.tuple #[]) ∧ Pair K st b (st2.crash k) b2 w' ∧ Kf K w w' := by
  obtain ⟨L, fp, R, fp2, hA, hK, h1, h2⟩ := h
  exact (ref_crash hA.2 h2 k (by have := hs.safe; omega) (by have := hs.files; omega) (fun i _ => by have := hs.len i; omega)).mono fun _ _ ⟨he, hx⟩ => ⟨he, pair_rnx hA hK h1 hx (wf_crash h2 _)⟩
theorem pair_fail (h : Pair K st b st2 b2 w) (k : Int) (hk : -9223372036854775808 ≤ k ∧ k ≤ 9223372036854775807) :
    Calls Try.prog 14 #[.pointer (some ⟨b, 0, none⟩), .int .i64 k] w fun e w' => e = .returned (.tuple #[]) ∧ Pair K (st.fail k) b st2 b2 w' ∧ Kf K w w' := by
  obtain ⟨L, fp, R, fp2, hA, hK, h1, h2⟩ := h
  exact (fail_at hA.1 k).mono fun _ _ ⟨he, hx⟩ => ⟨he, pair_nx hA hK h2 hx (wf_fail h1 hk)⟩
theorem pair_fail2 (h : Pair K st b st2 b2 w) (k : Int) (hk : -9223372036854775808 ≤ k ∧ k ≤ 9223372036854775807) :
    Calls Try.prog 42 #[.pointer (some ⟨b2, 0, none⟩), .int .i64 k] w fun e w' => e = .returned (.tuple #[]) ∧ Pair K st b (st2.fail k) b2 w' ∧ Kf K w w' := by
  obtain ⟨L, fp, R, fp2, hA, hK, h1, h2⟩ := h
  exact (ref_fail hA.2 k).mono fun _ _ ⟨he, hx⟩ => ⟨he, pair_rnx hA hK h1 hx (wf_fail h2 hk)⟩
theorem pair_free (h : Pair K st b st2 b2 w) (hs : Small st) :
    Calls Try.prog 10 #[.pointer (some ⟨b, 0, none⟩)] w fun e w' => e = .returned (.int .i64 st.free) ∧ Pair K st b st2 b2 w' ∧ Kf K w w' := by
  obtain ⟨L, fp, R, fp2, hA, hK, h1, h2⟩ := h
  exact (free_at hA.1 h1 (by have := hs.dir; omega)).mono fun _ _ ⟨he, hb⟩ => ⟨he, (Pair.below ⟨L, fp, R, fp2, hA, hK, h1, h2⟩ hb).mono (fun _ hk => .inl hk), Kf.of_below hb hK.2.2.2⟩
theorem pair_free2 (h : Pair K st b st2 b2 w) (hs : Small st2) :
    Calls Try.prog 20 #[.pointer (some ⟨b2, 0, none⟩)] w fun e w' => e = .returned (.int .i64 st2.free) ∧ Pair K st b st2 b2 w' ∧ Kf K w w' := by
  obtain ⟨L, fp, R, fp2, hA, hK, h1, h2⟩ := h
  exact (ref_free hA.2 h2 (by have := hs.dir; omega) (by have := hs.safe; omega) (by have := hs.files; omega)).mono fun _ _ ⟨he, hb⟩ => ⟨he, (Pair.below ⟨L, fp, R, fp2, hA, hK, h1, h2⟩ hb).mono (fun _ hk => .inl hk), Kf.of_below hb hK.2.2.2⟩
/-- Read: what is read lies in new blocks, which K takes up. -/
theorem pair_read (h : Pair K st b st2 b2 w) (hs : Small st) (n : ByteArray) (hn : n.size ≤ maxLen) :
    Calls Try.prog 17 #[.pointer (some ⟨b, 0, none⟩), .string n] w fun e w' => ∃ v r xs, e = .returned (.tuple #[v, .int .i64 r]) ∧ Row w' v xs ∧ (∀ i, find st.dir n.data.toList = some i → r = 0 ∧ xs = (st.file i).b) ∧ (find st.dir n.data.toList = none → r = 172) ∧ (∀ g, v.ownBlock = some g → w.heap.size ≤ g ∧ g < w'.heap.size) ∧ Below w.heap.size w w' := by
  obtain ⟨L, fp, R, fp2, hA, hK, h1, h2⟩ := h
  cases hf : find st.dir n.data.toList with
  | none =>
    refine (read_none hA.1 n hn hf).mono fun e w' ⟨he, hw⟩ => ?_
    subst hw
    exact ⟨_, _, [], he, .inl ⟨rfl, rfl⟩, (fun i hi => by cases hi), (fun _ => rfl), (fun g hg => by cases hg), Below.refl _ _⟩
  | some i =>
    refine (read_found hA.1 n hn hf (by have := hs.len i; omega)).mono fun e w' ⟨v, he, hr, hg, hb⟩ => ?_
    exact ⟨v, _, _, he, hr, (fun j hj => by cases hj; exact ⟨rfl, rfl⟩), (fun e => by cases e), (fun g h => ⟨hg g h, hr.lt h⟩), hb⟩
theorem pair_read2 (h : Pair K st b st2 b2 w) (hs : Small st2) (n : ByteArray) {i : Nat} (hf : find st2.dir n.data.toList = some i) :
    Calls Try.prog 21 #[.pointer (some ⟨b2, 0, none⟩), .string n] w fun e w' => ∃ v, e = .returned (.tuple #[v, .bool true]) ∧ Row w' v (st2.file i).b ∧ Below w.heap.size w w' := by
  obtain ⟨L, fp, R, fp2, hA, hK, h1, h2⟩ := h
  exact (ref_read hA.2 h2 n hf (by have := hs.dir; omega) (by have := hs.files; omega)).mono fun _ w' ⟨he, hb⟩ => ⟨_, he, ((hA.2.below hb).row i (used_lt h2 (find_used hf))).row, hb⟩
end
end Go.Proofs.Ytcaipccgphblnaa.Dk
