/- disk: the function that Remove hands on. -/
import Derived.Deep.RegionHeld3
import Derived.Test.YtcaipccgphblnaaSync
namespace Go.Proofs.Ytcaipccgphblnaa.Dk
open Go.RowKit Go.Proofs.YtcaipccgphblnaaW.PrintWords
set_option linter.unusedSimpArgs false
/-- What Remove hands on: the name is struck. x, y: the blocks of its boxed parameters. -/
theorem remove1 (b x y m n f : Nat) (D : DataW Unit) (name : ByteArray) (w : World) (hD : w.ownsMap Try.prog 9 Rf m n D) (hn : name.size ≤ maxLen) (hxm : x ≠ m) (hym : y ≠ m) (hbm : b ≠ m) (hx : x < w.heap.size) (hy : y < w.heap.size) (hb : b < w.heap.size)
    (cx : w.cell? ⟨x, 0, none⟩ = some (.pointer (some ⟨b, 0, none⟩))) (cy : w.cell? ⟨y, 0, none⟩ = some (.string name)) (cd : w.cell? ⟨b, 1, none⟩ = some (.map (some m))) :
    Calls Try.prog 29 #[.pointer (some ⟨f, 0, none⟩), .pointer (some ⟨x, 0, none⟩), .pointer (some ⟨y, 0, none⟩)] w fun e w' => e = .returned (.int .i64 0) ∧ w'.ownsMap Try.prog 9 Rf m n (D.del (.string name.data.toList)) ∧ w.drew.grownBy w' (some m) := by
  obtain ⟨w2, hrun, h1, h2⟩ := hD.drew.drop (Maps.string_keyed Try.underlying9) Try.underlying57 (key := .string name) (kl := .string name.data.toList) (by simp [keyOf, mapKey, Try.underlying9, hn]) 0
  have g := h2.grown
  have k1 : w2.cell? ⟨x, 0, none⟩ = some (.pointer (some ⟨b, 0, none⟩)) := (World.cell?_of_block (g.block x hx (fun e => hxm (Option.some.inj e)))).trans cx
  have k2 : w2.cell? ⟨y, 0, none⟩ = some (.string name) := (World.cell?_of_block (g.block y hy (fun e => hym (Option.some.inj e)))).trans cy
  have k3 : w2.cell? ⟨b, 1, none⟩ = some (.map (some m)) := (World.cell?_of_block (g.block b hb (fun e => hbm (Option.some.inj e)))).trans cd
  have HG := Aside0.mk g
  clear g h2
  have HD := Aside0.mk h1
  clear hD h1
  go_enter Try.func29, Try.ntmps29
  go_wp2_with (fail)
  go_region_held3 (fun wx => wx.cell? ⟨x, 0, none⟩ = some (.pointer (some ⟨b, 0, none⟩)) ∧ wx.cell? ⟨y, 0, none⟩ = some (.string name) ∧ wx.cell? ⟨b, 1, none⟩ = some (.map (some m))) (first | exact ⟨k1, k2, k3⟩ | exact ⟨cx, cy, cd⟩ | go_keep) (fail)
  all_goals go_wp2
  go_ret
  exact ⟨rfl, HD.out, HG.out⟩
end Go.Proofs.Ytcaipccgphblnaa.Dk
