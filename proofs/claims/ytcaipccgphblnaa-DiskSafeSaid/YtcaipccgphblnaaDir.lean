/- disk: a directory in memory: a map from names to files' blocks. -/
import Derived.Maps.OwnSet
import Derived.Test.YtcaipccgphblnaaMay
namespace Go.Proofs.Ytcaipccgphblnaa.Dk
open Go.RowKit Go.WideMaps Go.Proofs.YtcaipccgphblnaaW.PrintWords
set_option linter.unusedSimpArgs false

/-- How a pointer to a file reads: nil, or its block's number. -/
def Rf (v : Value) : Option (DataW Unit × List MemPlace) :=
  match v with
  | .pointer none => some (.nil, [])
  | .pointer (some ⟨b, 0, none⟩) => some (.lit (.int .i64 b), [])
  | _ => none
theorem Rf_nil {v : Value} {ps : List MemPlace} (h : Rf v = some (.nil, ps)) : v = .pointer none := by
  unfold Rf at h
  split at h
  · rfl
  · simp at h
  · cases h
theorem Rf_at {v : Value} {b : Nat} {ps : List MemPlace} (h : Rf v = some (.lit (.int .i64 b), ps)) : v = .pointer (some ⟨b, 0, none⟩) := by
  unfold Rf at h
  split at h
  · simp at h
  · simp only [Option.some.injEq, Prod.mk.injEq, DataW.lit.injEq, Lit.int.injEq, true_and] at h
    have : b = _ := (Int.ofNat.inj h.1).symm
    subst this
    rfl
  · cases h
theorem Rf_cases {v : Value} {d : DataW Unit} {ps : List MemPlace} (h : Rf v = some (d, ps)) : (d = .nil ∧ v = .pointer none) ∨ ∃ b : Nat, d = .lit (.int .i64 b) ∧ v = .pointer (some ⟨b, 0, none⟩) := by
  unfold Rf at h
  split at h
  · simp at h; exact .inl ⟨h.1.symm, rfl⟩
  · rename_i b
    simp at h; exact .inr ⟨b, h.1.symm, rfl⟩
  · cases h
/-- A name looked up. -/
theorem dir_look {W : World} {m n : Nat} {D : DataW Unit} (h : W.ownsMap Try.prog 9 Rf m n D) (name : ByteArray) (hn : name.size ≤ maxLen) :
    ∃ v, (Instr.lookup 57 (.map (some m)) (.string name) false).run Try.prog W = .ok v W ∧
      ((D.atKey (.string name.data.toList) .nil = .nil ∧ v = .pointer none) ∨ ∃ f : Nat, D.atKey (.string name.data.toList) .nil = .lit (.int .i64 f) ∧ v = .pointer (some ⟨f, 0, none⟩)) := by
  obtain ⟨v, ps, hr, hv⟩ := h.lookup (Maps.string_keyed Try.underlying9) Try.underlying57 (Try.zeroValue63 W) (zd := .nil) (zp := []) rfl (key := .string name) (kl := .string name.data.toList) (by simp [keyOf, mapKey, Try.underlying9, hn])
  exact ⟨v, hr, Rf_cases hv⟩
end Go.Proofs.Ytcaipccgphblnaa.Dk
