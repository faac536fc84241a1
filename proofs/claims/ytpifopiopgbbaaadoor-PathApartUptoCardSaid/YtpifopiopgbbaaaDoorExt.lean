/- The premise on the library's tables ('Env') that goes through all the printed functions, and the contract of strings.IndexByte, by hand. -/
import Derived.Test.YtpifopiopgbbaaaDoorShelfB
import Derived.Test.YtpifopiopgbbaaaDoorWWords
namespace Go.Proofs.YtpifopiopgbbaaaDoor.Pa
open Go.RowKit Go.Proofs.YtpifopiopgbbaaaDoorW.PrintWords

/-- What the library's own variables hold: the two tables of unicode/utf8, and some number in internal/bytealg.MaxLen. -/
structure Env (w : World) : Prop where
  tabs : Lib.Utf8Tabs 0 1 w
  maxl : ∃ m, w.cell? ⟨2, 0, none⟩ = some (.int .i64 m)
theorem env_at {w W : World} (h : Env w) (hb : Below w.heap.size w W) : Env W :=
  ⟨⟨fun c hc => pw_cell_below hb (h.tabs.1 c hc), fun i hi => ⟨pw_cell_below hb (h.tabs.2 i hi).1, pw_cell_below hb (h.tabs.2 i hi).2⟩⟩, h.maxl.elim fun m hm => ⟨m, pw_cell_below hb hm⟩⟩
def strings_IndexByte.f (a0 : ByteArray) (a1 : Int) : Option Int := some (Lib.indexByte a0.data.toList a1.toNat.toUInt8)
theorem strings_IndexByte.calls (a0 : ByteArray) (a1 : Int) (r : Int) (w : World) (h : strings_IndexByte.f a0 a1 = some r) :
    Calls Tryd.prog 26 #[.string a0, .int .u8 a1] w fun e w' => e = .returned (.int .i64 r) ∧ Below w.heap.size w w' := by
  unfold strings_IndexByte.f at h
  simp only [Option.some.injEq] at h
  subst h
  refine (Tryd.strings_IndexByte a0 a1 w).mono ?_
  rintro e w' ⟨rfl, rfl⟩
  exact ⟨rfl, Below.refl _ _⟩
end Go.Proofs.YtpifopiopgbbaaaDoor.Pa
