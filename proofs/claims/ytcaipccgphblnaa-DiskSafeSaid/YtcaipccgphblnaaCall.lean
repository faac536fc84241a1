/- disk: call: where it fails, and where the file is there. -/
import Derived.Test.YtcaipccgphblnaaDir
namespace Go.Proofs.Ytcaipccgphblnaa.Dk
open Go.RowKit Go.WideMaps Go.Proofs.YtcaipccgphblnaaW.PrintWords
set_option linter.unusedSimpArgs false
theorem call_torn (b : Nat) (room : Int) (dir safe : Value) (failing : Bool) (left : Int) (torn : Bool) (name : ByteArray) (F : Value) (w : World) (hl : -9223372036854775808 ≤ left ∧ left ≤ 9223372036854775807)
    (hh : w.heap[b]? = some (DCells room dir safe failing left torn)) (hm : (mayS failing left torn).1.1 = false) :
    Calls Try.prog 28 #[.pointer (some ⟨b, 0, none⟩), .string name, F] w fun e w' => e = .returned (.int .i64 171) ∧
      w'.heap[b]? = some (DCells room dir safe failing (mayS failing left torn).2.1 (mayS failing left torn).2.2) ∧ But b w w' := by
  go_enter Try.func28, Try.ntmps28
  go_wp2_with (fail)
  refine (may_calls b room dir safe failing left torn w hl hh).mono ?_
  rintro e w1 ⟨rfl, hd, hb⟩
  rw [hm]
  have HD := Aside0.mk hd
  have HB := Aside0.mk hb
  clear hd hb hh hm hl
  go_wp2_with (fail)
  go_ret
  exact ⟨rfl, HD.out, HB.out⟩
theorem call_none (b m n : Nat) (room : Int) (D : DataW Unit) (safe : Value) (failing : Bool) (left : Int) (torn : Bool) (name : ByteArray) (F : Value) (w : World) (hl : -9223372036854775808 ≤ left ∧ left ≤ 9223372036854775807)
    (hn : name.size ≤ maxLen) (hmb : m ≠ b)
    (hh : w.heap[b]? = some (DCells room (.map (some m)) safe failing left torn)) (hm : (mayS failing left torn).1.1 = true) (hD : w.ownsMap Try.prog 9 Rf m n D) (h0 : D.atKey (.string name.data.toList) .nil = .nil) :
    Calls Try.prog 28 #[.pointer (some ⟨b, 0, none⟩), .string name, F] w fun e w' => e = .returned (.int .i64 172) ∧
      w'.heap[b]? = some (DCells room (.map (some m)) safe failing (mayS failing left torn).2.1 (mayS failing left torn).2.2) ∧ But b w w' := by
  go_enter Try.func28, Try.ntmps28
  go_wp2_with (fail)
  refine (may_calls b room _ safe failing left torn w hl hh).mono ?_
  rintro e w1 ⟨rfl, hd, hb⟩
  rw [hm]
  have hD1 : w1.ownsMap Try.prog 9 Rf m n D := hD.kept (row := some b) ⟨hb.os, hb.tape, hb.output, Nat.le_of_eq hb.size.symm, fun k _ hk => hb.block k (fun e => hk (by rw [e]))⟩ (fun e => hmb (Option.some.inj e))
  obtain ⟨v, hr, hv⟩ := dir_look hD1 name hn
  have hv0 : v = .pointer none := by
    rcases hv with hv | ⟨f, hf, _⟩
    · exact hv.2
    · rw [h0] at hf; cases hf
  subst hv0
  have c1 : w1.cell? ⟨b, 1, none⟩ = some (.map (some m)) := by simp [World.cell?, hd, DCells]
  have HD := Aside0.mk hd
  have HB := Aside0.mk hb
  clear hd hb hh hm hl hD hD1 hv h0
  go_wp2_with (fail)
  go_ret
  exact ⟨rfl, HD.out, HB.out⟩
theorem call_found (b m n f : Nat) (room : Int) (D : DataW Unit) (safe : Value) (failing : Bool) (left : Int) (torn : Bool) (name : ByteArray) (g : Nat) (lb : Array Value) (w : World) (hl : -9223372036854775808 ≤ left ∧ left ≤ 9223372036854775807)
    (hn : name.size ≤ maxLen) (hmb : m ≠ b) (eg : ∀ args w, (callFunc g args).run Try.prog w = .ok (.enter g args) w)
    (hh : w.heap[b]? = some (DCells room (.map (some m)) safe failing left torn)) (hm : (mayS failing left torn).1.1 = true) (hD : w.ownsMap Try.prog 9 Rf m n D) (h0 : D.atKey (.string name.data.toList) .nil = .lit (.int .i64 f))
    (R : Ending → World → Prop)
    (hg : ∀ w1, w1.heap[b]? = some (DCells room (.map (some m)) safe failing (mayS failing left torn).2.1 (mayS failing left torn).2.2) → But b w w1 →
      Calls Try.prog g (#[.pointer (some ⟨f, 0, none⟩)] ++ lb) w1 fun e w' => (∃ r : Int, e = .returned (.int .i64 r)) ∧ R e w') :
    Calls Try.prog 28 #[.pointer (some ⟨b, 0, none⟩), .string name, .func (.func g) #[] lb] w R := by
  go_enter Try.func28, Try.ntmps28
  go_wp2_with (fail)
  refine (may_calls b room _ safe failing left torn w hl hh).mono ?_
  rintro e w1 ⟨rfl, hd, hb⟩
  rw [hm]
  have hD1 : w1.ownsMap Try.prog 9 Rf m n D := hD.kept (row := some b) ⟨hb.os, hb.tape, hb.output, Nat.le_of_eq hb.size.symm, fun k _ hk => hb.block k (fun e => hk (by rw [e]))⟩ (fun e => hmb (Option.some.inj e))
  obtain ⟨v, hr, hv⟩ := dir_look hD1 name hn
  have hv0 : v = .pointer (some ⟨f, 0, none⟩) := by
    rcases hv with hv | ⟨f', hf, hv⟩
    · rw [h0] at hv; cases hv.1
    · rw [h0] at hf
      simp only [DataW.lit.injEq, Lit.int.injEq, true_and] at hf
      rw [hv, Int.ofNat.inj hf]
  subst hv0
  have c1 : w1.cell? ⟨b, 1, none⟩ = some (.map (some m)) := by simp [World.cell?, hd, DCells]
  have HG := Aside0.mk (hg w1 hd hb)
  clear hd hb hh hm hl hD hD1 hv h0 hg
  go_wp2_with (fail)
  refine HG.out.mono ?_
  rintro e w2 ⟨⟨r, rfl⟩, hR⟩
  have HR := Aside0.mk hR
  clear hR HG
  go_wp2_with (fail)
  exact HR.out
end Go.Proofs.Ytcaipccgphblnaa.Dk

