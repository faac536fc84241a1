/- disk: Sync, of a file that is there. -/
import Derived.Test.YtcaipccgphblnaaFlush
import Derived.Test.YtcaipccgphblnaaCall
namespace Go.Proofs.Ytcaipccgphblnaa.Dk
open Go.RowKit Go.Proofs.YtcaipccgphblnaaW.PrintWords
set_option linter.unusedSimpArgs false
theorem sync_found (b m n f T : Nat) (room : Int) (D : DataW Unit) (safe : Value) (failing : Bool) (left : Int) (torn : Bool) (name : ByteArray) (a : Option Addr) (len cap : Nat) (sf : Int) (w : World)
    (hl : -9223372036854775808 ≤ left ∧ left ≤ 9223372036854775807) (hn : name.size ≤ maxLen) (hmb : m ≠ b) (hfb : f ≠ b) (hfm : m ≠ f)
    (hh : w.heap[b]? = some (DCells room (.map (some m)) safe failing left torn)) (hf : w.heap[f]? = some (FCells T a len cap sf)) (hm : (mayS failing left torn).1.1 = true)
    (hD : w.ownsMap Try.prog 9 Rf m n D) (h0 : D.atKey (.string name.data.toList) .nil = .lit (.int .i64 f)) :
    Calls Try.prog 13 #[.pointer (some ⟨b, 0, none⟩), .string name] w fun e w' => e = .returned (.int .i64 0) ∧
      w'.heap[b]? = some (DCells room (.map (some m)) safe failing (mayS failing left torn).2.1 (mayS failing left torn).2.2) ∧ w'.heap[f]? = some (FCells T a len cap len) ∧ w'.ownsMap Try.prog 9 Rf m n D ∧
      w'.heap.size = w.heap.size ∧ (w'.os = w.os ∧ w'.tape = w.tape ∧ w'.output = w.output) ∧ ∀ k, k ≠ b → k ≠ f → w'.heap[k]? = w.heap[k]? := by
  go_enter Try.func13, Try.ntmps13
  go_wp2_with (fail)
  refine (call_found b m n f room D safe failing left torn name 30 #[] w hl hn hmb (enters_of Try.func30 (by kernel_rfl) rfl) hh hm hD h0
    (fun e w' => e = .returned (.int .i64 0) ∧
      w'.heap[b]? = some (DCells room (.map (some m)) safe failing (mayS failing left torn).2.1 (mayS failing left torn).2.2) ∧ w'.heap[f]? = some (FCells T a len cap len) ∧ w'.ownsMap Try.prog 9 Rf m n D ∧
      w'.heap.size = w.heap.size ∧ (w'.os = w.os ∧ w'.tape = w.tape ∧ w'.output = w.output) ∧ ∀ k, k ≠ b → k ≠ f → w'.heap[k]? = w.heap[k]?) ?_).mono ?_
  · intro w1 hd hb
    refine (sync1 T f a len cap sf w1 ((hb.block f hfb).trans hf)).mono ?_
    rintro e w2 ⟨rfl, h1, h2⟩
    refine ⟨⟨0, rfl⟩, rfl, (h2.block b (fun e => hfb e.symm)).trans hd, h1, ?_, h2.size.trans hb.size, ⟨h2.os.trans hb.os, h2.tape.trans hb.tape, h2.output.trans hb.output⟩, fun k hkb hkf => (h2.block k hkf).trans (hb.block k hkb)⟩
    have hD1 : w1.ownsMap Try.prog 9 Rf m n D := hD.kept (row := some b) ⟨hb.os, hb.tape, hb.output, Nat.le_of_eq hb.size.symm, fun k _ hk => hb.block k (fun e => hk (by rw [e]))⟩ (fun e => hmb (Option.some.inj e))
    exact hD1.kept (row := some f) ⟨h2.os, h2.tape, h2.output, Nat.le_of_eq h2.size.symm, fun k _ hk => h2.block k (fun e => hk (by rw [e]))⟩ (fun e => hfm (Option.some.inj e))
  · rintro e w2 ⟨rfl, h1⟩
    have H1 := Aside0.mk h1
    clear h1
    go_wp2_with (fail)
    go_ret
    exact ⟨rfl, H1.out⟩
end Go.Proofs.Ytcaipccgphblnaa.Dk
