/- The contracts that the laws of path stand on: strings.Split, path.Segment, path.text. -/
import Derived.Test.YtpifopiopgbbaaaDoorExtE
namespace Go.Proofs.YtpifopiopgbbaaaDoor.Pf
open Go.Shelf Go.RowKit Go.Proofs.YtpifopiopgbbaaaDoorW.PrintWords
open By (L size_L L_mk mk_L L_extract L_to L_from)
abbrev Env := Pa.Env
theorem env_at {w W : World} (h : Env w) (hb : Below w.heap.size w W) : Env W := Pa.env_at h hb
theorem size_lit1 (a : UInt8) : (⟨#[a]⟩ : ByteArray).size = 1 := rfl
theorem isEmpty_ne {l : List UInt8} : l.isEmpty = !(l != []) := by cases l <;> rfl
def pieces (s sep : ByteArray) : List ByteArray := Lib.splitB sep 0 (Lib.countB s sep) s
def strings_Split.f (a0 a1 : ByteArray) : Option (List ByteArray) := if a0.size < 4294967281 ∧ 1 ≤ a1.size then some (pieces a0 a1) else none
theorem strings_Split.calls (a0 a1 : ByteArray) (r : List ByteArray) (w : World) (hE : Env w) (h : strings_Split.f a0 a1 = some r) :
    Calls Tryd.prog 22 #[.string a0, .string a1] w fun e w' => ∃ v, e = .returned v ∧ Kd.R Kd.string 9 w' w.heap.size (fun _ => True) v r ∧ Below w.heap.size w w' := by
  unfold strings_Split.f at h
  split at h
  case isFalse => cases h
  rename_i hs
  simp only [Option.some.injEq] at h
  subst h
  obtain ⟨m, hm⟩ := hE.maxl
  refine (Tryd.strings_Split a0 a1 m w hs.1 hm hs.2).mono ?_
  rintro e w' ⟨rfl, rfl⟩
  have hl : (pieces a0 a1).length = Lib.countB a0 a1 + 1 := Lib.splitB_all a1 hs.2 0 _ a0 rfl
  refine ⟨_, rfl, Kd.R_of_own ?_ ?_, (Below.refl _ _).alloc (Nat.le_refl _) _⟩
  · refine ⟨by simp [encs], .inr ⟨w.heap.size, Lib.countB a0 a1 + 1, ((pieces a0 a1).map Value.string).toArray, ?_, Nat.le_refl _, heap_alloc_new _ _, by rw [hl]; exact Nat.le_refl _, ?_, by simp [hl], ?_⟩⟩
    · rw [hl]
    · have := Lib.countB_le a1 hs.2 a0.size a0 (Nat.le_refl _)
      have := hs.1
      unfold maxLen; omega
    · simp only [encs, Nat.mul_one]; exact List.take_of_length_le (by simp)
  · exact fun _ _ => trivial
def path_text.f (a0 : ByteArray) : Option (ByteArray × Int) := if a0.size ≤ 1073741824 then some (Pc.textOut (Pc.textL (L a0))) else none
theorem path_text.calls (a0 : ByteArray) (r1 : ByteArray) (r2 : Int) (w : World) (hE : Env w) (h : path_text.f a0 = some (r1, r2)) :
    Calls Tryd.prog 23 #[.string a0] w fun e w' => e = .returned (.tuple #[.string r1, .int .i64 r2]) ∧ Below w.heap.size w w' := by
  unfold path_text.f at h
  split at h
  case isFalse => cases h
  rename_i hs
  have h' := Option.some.inj h
  have := Pc.text_calls a0 w hs hE
  rw [h'] at this
  exact this
def path_Segment.f (a0 : ByteArray) : Option (ByteArray × Int) := if a0.size ≤ 1073741824 then some (Pc.segOut a0) else none
theorem path_Segment.calls (a0 : ByteArray) (r1 : ByteArray) (r2 : Int) (w : World) (hE : Env w) (h : path_Segment.f a0 = some (r1, r2)) :
    Calls Tryd.prog 8 #[.string a0] w fun e w' => e = .returned (.tuple #[.string r1, .int .i64 r2]) ∧ Below w.heap.size w w' := by
  unfold path_Segment.f at h
  split at h
  case isFalse => cases h
  rename_i hs
  have h' := Option.some.inj h
  have := Pc.seg_calls a0 w hs hE
  rw [h'] at this
  exact this
end Go.Proofs.YtpifopiopgbbaaaDoor.Pf
