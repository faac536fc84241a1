/- disk: Flush, Sync, Remove, Rename, Fail, New over the plain model. -/
import Derived.Test.YtcaipccgphblnaaRel
import Derived.Test.YtcaipccgphblnaaPure
namespace Go.Proofs.Ytcaipccgphblnaa.Dk
open Go.RowKit Go.WideMaps Go.Proofs.YtcaipccgphblnaaW.PrintWords
set_option linter.unusedSimpArgs false
section
variable {L : Lay} {st : St} {fp : Nat → Prop} {b : Nat} {w : World}
theorem may_at (h : At L st fp b w) (hw : Wf st) :
    Calls Try.prog 22 #[.pointer (some ⟨b, 0, none⟩)] w fun e w' => e = .returned (.tuple #[.bool st.ok, .bool st.first]) ∧ At L st.may fp b w' ∧ But b w w' :=
  (may_calls b st.room _ _ st.failing st.left st.torn w hw.left h.cells).mono fun _ _ ⟨he, hc, hb⟩ => ⟨he, h.turn hb hc, hb⟩
theorem dir_atKey (h : At L st fp b w) (n : ByteArray) : (dirD L.blk st.dir).atKey (.string n.data.toList) .nil = match find st.dir n.data.toList with | none => .nil | some i => .lit (.int .i64 (L.blk i : Nat)) := dirD_atKey _ _ _
theorem fail_at (h : At L st fp b w) (n : Int) :
    Calls Try.prog 14 #[.pointer (some ⟨b, 0, none⟩), .int .i64 n] w fun e w' => e = .returned (.tuple #[]) ∧ Nx (st.fail n) fp b w w' :=
  (fail_calls b st.room _ _ st.failing st.left st.torn n w h.cells).mono fun _ _ ⟨he, hc, hb⟩ => ⟨he, nx_of_but h hb hc⟩
theorem call_at_torn (h : At L st fp b w) (hw : Wf st) (hok : st.ok = false) (n : ByteArray) (F : Value) :
    Calls Try.prog 28 #[.pointer (some ⟨b, 0, none⟩), .string n, F] w fun e w' => e = .returned (.int .i64 171) ∧ Nx st.may fp b w w' :=
  (call_torn b st.room _ _ st.failing st.left st.torn n F w hw.left h.cells hok).mono fun _ _ ⟨he, hc, hb⟩ => ⟨he, nx_of_but h hb hc⟩
theorem call_at_none (h : At L st fp b w) (hw : Wf st) (hok : st.ok = true) (n : ByteArray) (hn : n.size ≤ maxLen) (hf : find st.dir n.data.toList = none) (F : Value) :
    Calls Try.prog 28 #[.pointer (some ⟨b, 0, none⟩), .string n, F] w fun e w' => e = .returned (.int .i64 172) ∧ Nx st.may fp b w w' :=
  (call_none b L.m _ st.room _ _ st.failing st.left st.torn n F w hw.left hn h.bm h.cells hok h.dir (by rw [dirD_atKey, hf])).mono fun _ _ ⟨he, hc, hb⟩ => ⟨he, nx_of_but h hb hc⟩
theorem call_at_found (h : At L st fp b w) (hw : Wf st) (hok : st.ok = true) (n : ByteArray) (hn : n.size ≤ maxLen) (i : Nat) (hf : find st.dir n.data.toList = some i) (g : Nat) (lb : Array Value)
    (eg : ∀ args w, (callFunc g args).run Try.prog w = .ok (.enter g args) w) (R : Ending → World → Prop)
    (hg : ∀ w1, At L st.may fp b w1 → But b w w1 → Calls Try.prog g (#[.pointer (some ⟨L.blk i, 0, none⟩)] ++ lb) w1 fun e w' => (∃ r : Int, e = .returned (.int .i64 r)) ∧ R e w') :
    Calls Try.prog 28 #[.pointer (some ⟨b, 0, none⟩), .string n, .func (.func g) #[] lb] w R :=
  call_found b L.m _ (L.blk i) st.room _ _ st.failing st.left st.torn n g lb w hw.left hn h.bm eg h.cells hok h.dir (by rw [dirD_atKey, hf]) R fun w1 hc hb => hg w1 (h.turn hb hc) hb
theorem used_of_find {i : Nat} {n : Bs} (hf : find st.dir n = some i) : st.used i := .inl (List.mem_map.2 ⟨_, find_some hf, rfl⟩)
theorem file_lt (hw : Wf st) {i : Nat} (hi : st.used i) : i < st.files.length := by
  rcases hi with hi | hi
  · obtain ⟨p, hp, rfl⟩ := List.mem_map.1 hi; exact hw.dir.lt p hp
  · obtain ⟨p, hp, rfl⟩ := List.mem_map.1 hi; exact hw.sdir.lt p hp
/-- A file's block has turned: its slice (of a row that is its old one, or new), and how many bytes are safe. -/
theorem At.updF (h : At L st fp b w) {i : Nat} (hi : st.used i) (hlt : i < st.files.length) {w' : World} {f : F} {v' : Value} (hs : w.heap.size ≤ w'.heap.size)
    (hv : v'.ownBlock = (L.v i).ownBlock ∨ ∀ g, v'.ownBlock = some g → w.heap.size ≤ g)
    (hk : ∀ k, k < w.heap.size → k ≠ L.blk i → (L.v i).ownBlock ≠ some k → w'.heap[k]? = w.heap[k]?)
    (hf : w'.heap[L.blk i]? = some (.cells #[v', .int .i64 f.safe] 65 (0, 0))) (hr : Row w' v' f.b) :
    At { L with v := fun j => if j = i then v' else L.v j } (st.upd i f) (nfp fp w w') b w' := by
  have keepB : ∀ k, k < w.heap.size → k ≠ L.blk i → (∀ g, (L.v i).ownBlock = some g → g ≠ k) → w'.heap[k]? = w.heap[k]? := fun k h1 h2 h3 => hk k h1 h2 (fun e => h3 k e rfl)
  have hvg : ∀ g, v'.ownBlock = some g → (L.v i).ownBlock = some g ∨ w.heap.size ≤ g := fun g hg => hv.elim (fun e => .inl (e ▸ hg)) (fun e => .inr (e g hg))
  refine { cells := ?_, dir := ?_, sdir := ?_, ms := h.ms, file := ?_, row := ?_, inj := h.inj, sep := ?_, fpb := .inl h.fpb, fpm := .inl h.fpm, fps := .inl h.fps, fpf := fun j hj => .inl (h.fpf j hj), fpr := ?_, fpl := ?_ }
  · exact (keepB b h.lt_b (fun e => h.bf hi e.symm) (fun g hg => h.br hi hg)).trans h.cells
  · exact ownsMap_heap h.dir (keepB _ h.dir.lt (fun e => h.mf hi e.symm) (fun g hg => h.mr hi hg))
  · exact ownsMap_heap h.sdir (keepB _ h.sdir.lt (fun e => h.sf hi e.symm) (fun g hg => h.sr hi hg))
  · intro j hj
    by_cases e : j = i
    · subst e; simp only [if_pos]; rw [file_upd_same hlt]; exact hf
    · simp only [if_neg e]; rw [file_upd_other (fun e' => e e'.symm)]
      exact (keepB _ (h.lt_f hj) (fun e' => e (h.inj j i hj hi e')) (fun g hg e' => h.fr hj hi hg e'.symm)).trans (h.file j hj)
  · intro j hj
    by_cases e : j = i
    · subst e; simp only [if_pos]; rw [file_upd_same hlt]; exact hr
    · simp only [if_neg e]; rw [file_upd_other (fun e' => e e'.symm)]
      exact (h.row j hj).heap fun g hg => keepB g ((h.row j hj).lt hg) (fun e' => h.fr hi hj hg e'.symm) (fun g' hg' e' => h.sep j i hj hi e g hg (e' ▸ hg'))
  · intro j k hj hk' hjk g hg
    by_cases ej : j = i
    · have ek : k ≠ i := fun e => hjk (ej.trans e.symm)
      simp only [if_pos ej] at hg
      simp only [if_neg ek]
      intro hg'
      rcases hvg g hg with h1 | h1
      · exact h.sep i k hi hk' (fun e => ek e.symm) g h1 hg'
      · have := (h.row k hk').lt hg'; omega
    · simp only [if_neg ej] at hg
      by_cases ek : k = i
      · simp only [if_pos ek]
        intro hg'
        rcases hvg g hg' with h1 | h1
        · exact h.sep j i hj hi ej g hg h1
        · have := (h.row j hj).lt hg; omega
      · simp only [if_neg ek]; exact h.sep j k hj hk' hjk g hg
  · intro j hj g hg
    by_cases e : j = i
    · simp only [if_pos e] at hg
      rcases hvg g hg with h1 | h1
      · exact .inl (h.fpr i hi g h1)
      · exact .inr ⟨h1, hr.lt hg⟩
    · simp only [if_neg e] at hg; exact .inl (h.fpr j hj g hg)
  · exact fun k hk' => hk'.elim (fun e => Nat.lt_of_lt_of_le (h.fpl k e) hs) (fun e => e.2)
theorem may_used {i : Nat} : st.may.used i ↔ st.used i := Iff.rfl
theorem may_file {i : Nat} : st.may.file i = st.file i := rfl

theorem sync_wrap (r : Int) (R : World → Prop) (n : ByteArray) (H : Calls Try.prog 28 #[.pointer (some ⟨b, 0, none⟩), .string n, .func (.func 30) #[] #[]] w fun e w' => e = .returned (.int .i64 r) ∧ R w') :
    Calls Try.prog 13 #[.pointer (some ⟨b, 0, none⟩), .string n] w fun e w' => e = .returned (.int .i64 r) ∧ R w' := by
  have H := Aside0.mk H
  go_enter Try.func13, Try.ntmps13
  go_wp2_with (fail)
  refine H.out.mono ?_
  rintro e w2 ⟨rfl, h1⟩
  have H1 := Aside0.mk h1
  clear h1
  go_wp2_with (fail)
  go_ret
  exact ⟨rfl, H1.out⟩
theorem sync_at (h : At L st fp b w) (hw : Wf st) (n : ByteArray) (hn : n.size ≤ maxLen) :
    Calls Try.prog 13 #[.pointer (some ⟨b, 0, none⟩), .string n] w fun e w' => e = .returned (.int .i64 (st.sync n.data.toList).1) ∧ Nx (st.sync n.data.toList).2 fp b w w' := by
  refine sync_wrap _ _ n ?_
  by_cases hok : st.ok = false
  · have hs : st.sync n.data.toList = (171, st.may) := by simp [St.sync, hok]
    rw [hs]
    exact call_at_torn h hw hok n _
  · have hok : st.ok = true := by simpa using hok
    cases hf : find st.dir n.data.toList with
    | none =>
      have hs : st.sync n.data.toList = (172, st.may) := by simp [St.sync, hok, hf]
      rw [hs]
      exact call_at_none h hw hok n hn hf _
    | some i =>
      have hs : st.sync n.data.toList = (0, st.may.upd i ⟨(st.file i).b, st.len i⟩) := by simp [St.sync, hok, hf]
      rw [hs]
      have hi := used_of_find hf
      refine call_at_found h hw hok n hn i hf 30 #[] (enters_of Try.func30 (by kernel_rfl) rfl) _ ?_
      intro w1 h1 hb
      obtain ⟨a, cap, hv, hc1, hc2⟩ := (h1.row i hi).form
      have hfile := h1.file i hi
      rw [hv] at hfile
      refine (sync1 65 (L.blk i) a _ cap _ w1 hfile).mono ?_
      rintro e w2 ⟨rfl, k1, k2⟩
      refine ⟨⟨0, rfl⟩, rfl, nx_trans (Fr.of_but hb h.fpb) ⟨⟨_, (h1.nf (w0 := w) (Nat.le_of_eq hb.size.symm) h.fpl).updF hi (file_lt hw hi) (v' := L.v i) (Nat.le_of_eq k2.size.symm) (.inl rfl) (fun k _ hk _ => k2.block k hk) ?_ ?_⟩, Fr.of_but k2 (.inl (h1.fpf i hi))⟩⟩
      · rw [k1, hv]; rfl
      · exact (h1.row i hi).heap fun g hg => k2.block g (fun e => h1.fr hi hi hg e.symm)
end
end Go.Proofs.Ytcaipccgphblnaa.Dk
