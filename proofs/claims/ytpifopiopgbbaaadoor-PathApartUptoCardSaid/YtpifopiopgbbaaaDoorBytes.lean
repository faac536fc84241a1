/- Byte arrays as lists of bytes: the words of the printed functions, in plain lists. No program, no memory. -/
import Derived.Test.YtpifopiopgbbaaaDoorChars
import Derived.Test.YtpifopiopgbbaaaDoorWWords
import Derived.Lib.IndexBytes
namespace Go.Proofs.YtpifopiopgbbaaaDoor.By
open Go.RowKit Go.Proofs.YtpifopiopgbbaaaDoorW.PrintWords

abbrev L (s : ByteArray) : List UInt8 := s.data.toList
theorem size_L (s : ByteArray) : s.size = (L s).length := Lib.size_eq s
theorem L_mk (l : List UInt8) : L ⟨l.toArray⟩ = l := by simp [L]
theorem mk_L (s : ByteArray) : (⟨(L s).toArray⟩ : ByteArray) = s := by simp [L]
theorem L_inj {s t : ByteArray} (h : L s = L t) : s = t := by rw [← mk_L s, ← mk_L t, h]
theorem L_extract (s : ByteArray) (a b : Nat) : L (s.extract a b) = ((L s).drop a).take (b - a) := Lib.extract_data s a b
theorem L_to (s : ByteArray) (a : Nat) : L (s.extract a s.size) = (L s).drop a := by
  rw [L_extract, List.take_of_length_le (by rw [List.length_drop, size_L]; omega)]
theorem L_from (s : ByteArray) (b : Nat) : L (s.extract 0 b) = (L s).take b := by rw [L_extract]; simp
theorem L_append (s t : ByteArray) : L (s ++ t) = L s ++ L t := by simp [L]
theorem toList_L (s : ByteArray) : s.toList = L s := Lib.toList_data s
theorem get!_L (s : ByteArray) (i : Nat) : s.get! i = (L s).getD i 0 := by
  by_cases hi : i < s.size
  · rw [Utf8W.get!_of_lt s i hi, List.getD_eq_getElem?_getD, Lib.data_getElem? s i hi]; rfl
  · rw [List.getD_eq_getElem?_getD, List.getElem?_eq_none (by rw [← size_L]; omega)]
    obtain ⟨d⟩ := s
    show d[i]! = 0
    have : ¬ i < d.size := hi
    simp [this]
    rfl
theorem bt_L (s : ByteArray) (i : Nat) : bt s (i : Int) = ((L s).getD i 0).toNat := by
  rw [← get!_L]
  unfold bt
  simp only [Int.toNat_natCast]
  split
  · rename_i h; rw [Utf8W.get!_of_lt s i h]
  · rename_i h
    rw [get!_L, List.getD_eq_getElem?_getD, List.getElem?_eq_none (by rw [← size_L]; omega)]; rfl
theorem decodeGo_chr (s : ByteArray) : (Lib.decodeGo s).2 = Ch.chr (L s) := by
  unfold Lib.decodeGo Ch.chr
  by_cases h : s.size = 0
  · rw [if_pos h, if_pos (by rw [← size_L]; exact h)]
  · rw [if_neg h, if_neg (by rw [← size_L]; exact h), Lib.decode_at]
    simp only [Nat.zero_add, Nat.sub_zero, get!_L, size_L]
    rfl
theorem wrap_in {x : Int} (h0 : -9223372036854775808 ≤ x) (h1 : x ≤ 9223372036854775807) : wrap64 x = x := by
  unfold wrap64; omega
end Go.Proofs.YtpifopiopgbbaaaDoor.By
