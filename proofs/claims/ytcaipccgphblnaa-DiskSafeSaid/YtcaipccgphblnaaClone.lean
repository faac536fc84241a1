/- disk: maps.Clone, laid at this dump by hand. -/
import Derived.Shelf.SlMaps.Clone
import Derived.Test.YtcaipccgphblnaaDir
namespace Go.Proofs
open Go.Shelf
def Try.laysClone_ren : Go.Shelf.Ren := ⟨fun | 5 => 27 | 7 => 49 | n => n, fun | 4 => 4 | 20 => 20 | 23 => 57 | 25 => 9 | 3 => 63 | n => n, fun n => n⟩
theorem Try.laysClone : Go.Proofs.SlLaysW.n5 Try.prog Try.laysClone_ren := {
  mixed := by kernel_rfl
  f5 := ⟨Try.f27.name, by kernel_rfl, Try.func27.trans (congrArg some (by kernel_rfl))⟩
  f7 := Try.func49.trans (congrArg some (by kernel_rfl))
  t4 := Try.underlying4
  a4 := Try.isAgg4
  z4 := Try.sizeOf4
  v4 := Try.zeroValue4
  t20 := Try.underlying20
  a20 := Try.isAgg20
  z20 := Try.sizeOf20
  v20 := Try.zeroValue20
  t23 := Try.underlying57
  a23 := Try.isAgg57
  z23 := Try.sizeOf57
  v23 := Try.zeroValue57 }
end Go.Proofs
namespace Go.Proofs.Ytcaipccgphblnaa.Dk
open Go.RowKit
theorem clone_calls (m n : Nat) (D : DataW Unit) (w : World) (h : w.ownsMap Try.prog 9 Rf m n D) :
    Calls Try.prog 27 #[.map (some m)] w fun e w' => e = .returned (.map (some w.heap.size)) ∧ w'.ownsMap Try.prog 9 Rf w.heap.size n D ∧ w'.ownsMap Try.prog 9 Rf m n D ∧ Below w.heap.size w w' :=
  AnyW.maps_Clone_owns Try.laysClone 9 Rf m n D w h
end Go.Proofs.Ytcaipccgphblnaa.Dk
