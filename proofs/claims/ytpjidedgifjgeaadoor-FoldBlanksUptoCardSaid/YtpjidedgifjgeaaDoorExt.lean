/- The contracts, by hand, of five functions that the print leaves to a text of the session: strings.Cut, strings.Contains, strings.ContainsAny (at CR, LF), unicode/utf8.DecodeRuneInString; and the premise on the library's tables ('Env') that goes through all the printed ones. Conditions: those that stand in each '.f' (a text shorter than 4294967281 bytes). -/
import Derived.Test.YtpjidedgifjgeaaDoorShelf
import Derived.Test.YtpjidedgifjgeaaDoorWWords
namespace Go.Proofs.YtpjidedgifjgeaaDoor.Pa
open Go.RowKit Go.Proofs.YtpjidedgifjgeaaDoorW.PrintWords

/-- What the library's own variables hold: the two tables of unicode/utf8, and some number in internal/bytealg.MaxLen. -/
structure Env (w : World) : Prop where
  tabs : Lib.Utf8Tabs 1 2 w
  maxl : ∃ m, w.cell? ⟨0, 0, none⟩ = some (.int .i64 m)
theorem env_at {w W : World} (h : Env w) (hb : Below w.heap.size w W) : Env W :=
  ⟨⟨fun c hc => pw_cell_below hb (h.tabs.1 c hc), fun i hi => ⟨pw_cell_below hb (h.tabs.2 i hi).1, pw_cell_below hb (h.tabs.2 i hi).2⟩⟩, h.maxl.elim fun m hm => ⟨m, pw_cell_below hb hm⟩⟩

def utf8_DecodeRuneInString.f (a0 : ByteArray) : Option (Int × Int) := some ((Lib.decodeGo a0).1, (Lib.decodeGo a0).2)
theorem utf8_DecodeRuneInString.calls (a0 : ByteArray) (r1 r2 : Int) (w : World) (hE : Env w) (h : utf8_DecodeRuneInString.f a0 = some (r1, r2)) :
    Calls Tryd.prog 27 #[.string a0] w fun e w' => e = .returned (.tuple #[.int .i32 r1, .int .i64 r2]) ∧ Below w.heap.size w w' := by
  unfold utf8_DecodeRuneInString.f at h
  simp only [Option.some.injEq, Prod.mk.injEq] at h
  obtain ⟨rfl, rfl⟩ := h
  exact Tryd.utf8_DecodeRuneInString a0 w hE.tabs

end Go.Proofs.YtpjidedgifjgeaaDoor.Pa
namespace Go.Proofs.YtpjidedgifjgeaaDoor.Pf
open Go.RowKit Go.Proofs.YtpjidedgifjgeaaDoorW.PrintWords

abbrev Env := Pa.Env
theorem env_at {w W : World} (h : Env w) (hb : Below w.heap.size w W) : Env W := Pa.env_at h hb

def strings_Cut.f (a0 a1 : ByteArray) : Option (ByteArray × ByteArray × Bool) :=
  if a0.size < 4294967281 then some (⟨(Lib.cut a0.data.toList a1.data.toList).1.toArray⟩, ⟨(Lib.cut a0.data.toList a1.data.toList).2.1.toArray⟩, (Lib.cut a0.data.toList a1.data.toList).2.2) else none
theorem strings_Cut.calls (a0 a1 r1 r2 : ByteArray) (r3 : Bool) (w : World) (hE : Env w) (h : strings_Cut.f a0 a1 = some (r1, r2, r3)) :
    Calls Tryd.prog 16 #[.string a0, .string a1] w fun e w' => e = .returned (.tuple #[.string r1, .string r2, .bool r3]) ∧ Below w.heap.size w w' := by
  unfold strings_Cut.f at h
  split at h
  · rename_i hs
    simp only [Option.some.injEq, Prod.mk.injEq] at h
    obtain ⟨rfl, rfl, rfl⟩ := h
    obtain ⟨m, hm⟩ := hE.maxl
    refine (Tryd.strings_Cut a0 a1 m w hs hm).mono ?_
    rintro e w' ⟨rfl, n, rfl⟩
    exact ⟨rfl, pw_below_drewN (Below.refl _ _) n⟩
  · cases h

def strings_Contains.f (a0 a1 : ByteArray) : Option Bool :=
  if a0.size < 4294967281 then some (Lib.contains a0.data.toList a1.data.toList) else none
theorem strings_Contains.calls (a0 a1 : ByteArray) (r : Bool) (w : World) (hE : Env w) (h : strings_Contains.f a0 a1 = some r) :
    Calls Tryd.prog 18 #[.string a0, .string a1] w fun e w' => e = .returned (.bool r) ∧ Below w.heap.size w w' := by
  unfold strings_Contains.f at h
  split at h
  · rename_i hs
    simp only [Option.some.injEq] at h
    subst h
    obtain ⟨m, hm⟩ := hE.maxl
    refine (Tryd.strings_Contains a0 a1 m w hs hm).mono ?_
    rintro e w' ⟨rfl, rfl⟩
    exact ⟨rfl, Below.refl _ _⟩
  · cases h

end Go.Proofs.YtpjidedgifjgeaaDoor.Pf
