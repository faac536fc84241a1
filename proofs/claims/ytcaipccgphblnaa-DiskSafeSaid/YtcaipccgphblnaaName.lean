/- disk: Name. -/
import Derived.Test.YtcaipccgphblnaaTwo
namespace Go.Proofs.Ytcaipccgphblnaa.Dk
open Go.RowKit Go.WideMaps Go.Proofs.YtcaipccgphblnaaW.PrintWords
set_option linter.unusedSimpArgs false
def nmOf : Nat → ByteArray
  | 0 => ⟨#[102]⟩
  | 1 => ⟨#[103]⟩
  | 2 => ⟨#[104]⟩
  | _ => ⟨#[]⟩
/-- The name of a number. -/
def nameI (k : Int) : ByteArray := nmOf ((IntKind.u64.wrap k) % 4).toNat
theorem u64_mod (k : Int) (m : Int) (h0 : 0 < m) : (IntKind.u64.wrap k).tmod m = (IntKind.u64.wrap k) % m := Int.tmod_eq_emod_of_nonneg (u64_pos k).1
theorem name_calls (k : Int) (w : World) : Calls Try.prog 33 #[.int .i64 k] w fun e w' => e = .returned (.string (nameI k)) ∧ Below w.heap.size w w' := by
  obtain ⟨j, hj, hj4⟩ : ∃ j : Nat, (IntKind.u64.wrap k) % 4 = (j : Int) ∧ j < 4 := by
    have h1 := Int.emod_nonneg (IntKind.u64.wrap k) (show (4 : Int) ≠ 0 by omega)
    have h2 := Int.emod_lt_of_pos (IntKind.u64.wrap k) (show (0 : Int) < 4 by omega)
    exact ⟨((IntKind.u64.wrap k) % 4).toNat, by omega, by omega⟩
  have hm := u64_mod k 4 (by omega)
  have hn : nameI k = nmOf j := by unfold nameI; rw [hj]; rfl
  rw [hn]
  rw [hj] at hm
  have hm2 : IntKind.u64.wrap (IntKind.u64.wrap k) = IntKind.u64.wrap k := by
    have := u64_pos k
    generalize IntKind.u64.wrap k = z at this
    simp only [IntKind.wrap, IntKind.bits, IntKind.signed]; simp; omega
  clear hn hj
  rcases (by omega : j = 0 ∨ j = 1 ∨ j = 2 ∨ j = 3) with rfl | rfl | rfl | rfl
  all_goals
    go_enter Try.func33, Try.ntmps33
    go_wp2_with (fail)
    go_ret
    exact ⟨rfl, (Below.refl _ _).alloc (Nat.le_refl _) _⟩
theorem nmOf_size (j : Nat) : (nmOf j).size ≤ maxLen := by unfold nmOf; split <;> exact nm_le _ (by decide)
theorem nameI_size (k : Int) : (nameI k).size ≤ maxLen := nmOf_size _
/-- The kind of an operation. -/
def kindI (k : Int) : Nat := ((IntKind.u64.wrap k) % 9).toNat
theorem kindI_is (k : Int) : (IntKind.u64.wrap k) % 9 = (kindI k : Int) ∧ kindI k < 9 := by
  have h1 := Int.emod_nonneg (IntKind.u64.wrap k) (show (9 : Int) ≠ 0 by omega)
  have h2 := Int.emod_lt_of_pos (IntKind.u64.wrap k) (show (0 : Int) < 9 by omega)
  unfold kindI
  omega
/-- An operation of a script: its kind, its names, its number, its bytes. -/
structure Opr where
  k : Int
  a : Int
  c : Int
  n : Int
  d : Bs
/-- What an operation answers, and leaves. -/
def St.play (o : Opr) (s : St) : Int × St :=
  match kindI o.k with
  | 0 => s.write (nameI o.a).data.toList o.d
  | 1 => s.cut (nameI o.a).data.toList o.n
  | 2 => s.sync (nameI o.a).data.toList
  | 3 => s.rename (nameI o.a).data.toList (nameI o.c).data.toList
  | 4 => s.remove (nameI o.a).data.toList
  | 5 => s.flush
  | 6 => (0, s.crash o.n)
  | 7 => (0, s.fail o.n)
  | _ => (0, s)
/-- What the law's step answers. -/
def ansOf (o : Opr) (s s2 : St) : Bool := (s.play o).1 == (s2.play o).1
end Go.Proofs.Ytcaipccgphblnaa.Dk
