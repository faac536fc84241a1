/- path.Segment: what it answers. -/
import Derived.Test.YtpifopiopgbbaaaDoorExtD
namespace Go.Proofs.YtpifopiopgbbaaaDoor.Pc
open Go.Shelf Go.RowKit Go.Proofs.YtpifopiopgbbaaaDoorW.PrintWords Pb
open By (L size_L L_mk mk_L L_extract L_to L_from)

def dig (n : Nat) : UInt8 := (L digits).getD n 0
def esc (c : UInt8) : Bs := if bare c then [c] else [37, dig (c.toNat / 16), dig (c.toNat % 16)]
def segL (l : Bs) : Bs := l.flatMap esc
theorem segL_snoc (l : Bs) (c : UInt8) : segL (l ++ [c]) = segL l ++ esc c := by simp [segL]
theorem segL_length (l : Bs) : (segL l).length ≤ 3 * l.length := by
  induction l with
  | nil => simp [segL]
  | cons c l ih =>
    have : (esc c).length ≤ 3 := by unfold esc; split <;> simp
    simp only [segL, List.flatMap_cons, List.length_append, List.length_cons] at ih ⊢
    omega
theorem dig_get (n : Nat) (h : n < 16) : digits[n]'h = dig n :=
  get_L digits n h (dig n) (by
    unfold dig
    rw [List.getD_eq_getElem?_getD, List.getElem?_eq_getElem (show n < (L digits).length from h)]; rfl)
set_option maxRecDepth 100000 in
theorem and15 (c : UInt8) : bits .and .u8 (c.toNat : Int) 15 = ((c.toNat % 16 : Nat) : Int) := by
  have key : ∀ X : Fin 256, bits .and .u8 ((X.val : Nat) : Int) 15 = ((X.val % 16 : Nat) : Int) := of_decide_eq_true (by kernel_rfl)
  exact key ⟨c.toNat, c.toNat_lt⟩
def segOut (s : ByteArray) : ByteArray × Int := if fitsB s then (⟨(segL (L s)).toArray⟩, 0) else (⟨#[]⟩, 60)
theorem putB (C b : Nat) (acc : Bs) (c : UInt8) (w : World) (h : BAt C b (Lib.byteCells acc) w) (hlen : acc.length ≤ 4294967296) :
    Calls Tryd.prog 18 #[.pointer (some ⟨b, 0, none⟩), .int .u8 c.toNat] w fun e w' => e = .returned .nilIface ∧ BAt C b (Lib.byteCells (acc ++ [c])) w' ∧ Fr C b w w' := by
  refine (write_byte C b (Lib.byteCells acc) c.toNat w h (by rw [Lib.byteCells_length]; omega)).mono ?_
  rintro e w' ⟨rfl, h1, h2⟩
  exact ⟨rfl, by rw [byteCells_snoc]; exact h1, h2⟩
theorem batB_below {C b : Nat} {bs : List Value} {w w' : World} (h : BAt C b bs w) (hb : Below w.heap.size w w') : BAt C b bs w' := by
  obtain ⟨h1, h2, p, v, h3, h4, h5⟩ := h
  exact ⟨h1, Nat.le_trans h2 hb.size, p, v, h3, (hb.block _ (by omega)).trans h4, pw_own_below h5 hb⟩
theorem frB_of_below {C b : Nat} {w w' : World} (hb : Below w.heap.size w w') (hC : C ≤ w.heap.size) (hbC : b ≤ C) : Fr C b w w' :=
  ⟨⟨hb.os, hb.tape, hb.output, hb.size, fun k hk => hb.block k (by omega)⟩, fun k hk _ => hb.block k (by omega)⟩
theorem batB_builder {C b : Nat} {bs : List Value} {w : World} (h : BAt C b bs w) : Lib.IsBuilder 43 5 b b bs w := by
  obtain ⟨h1, h2, p, v, h3, h4, h5⟩ := h
  have hat : Lib.BuilderAt 43 5 b b p bs w := ⟨Nat.le_refl _, v, h4, own_weaken h5 (by omega), fun e => by have := (h5.lt b e).1; omega⟩
  rcases h3 with rfl | rfl
  · exact .inl hat
  · exact .inr hat
theorem seg_calls (s : ByteArray) (w : World) (hs : s.size ≤ 1073741824) (hE : Env w) :
    Calls Tryd.prog 8 #[.string s] w fun e w' => e = .returned (.tuple #[.string (segOut s).1, .int .i64 (segOut s).2]) ∧ Below w.heap.size w w' := by
  have HE := Aside0.mk hE
  have HS := Aside0.mk hs
  obtain ⟨R, hR⟩ : ∃ R, segOut s = R := ⟨_, rfl⟩
  rw [hR]
  have hff := fits_f s (by omega)
  by_cases hf : fitsB s = true
  · have HR := Aside0.mk (show R = (⟨(segL (L s)).toArray⟩, 0) by rw [← hR]; simp only [segOut, hf, if_true])
    rw [hf] at hff
    clear hE hs hR hf
    go_enter Tryd.func8, Tryd.ntmps8
    go_wp2_with (go_at_call 16; refine (path_fits.calls s true _ HE.out hff).mono ?_; rintro e w1 ⟨rfl, hb1⟩)
    have HB1 := Aside0.mk hb1
    clear hb1
    go_wp2_with (fail)
    rw [Lib.run_convert_string_bytes (P := Tryd.prog) (w1.alloc (Obj.cells #[Value.pointer none, Value.slice none 0 0] 43)) 9 41 5 s Tryd.underlying9 Tryd.underlying41 Tryd.underlying5]
    have hA := fun o => fresh_bat w1 o
    have hsz1 : (w1.alloc (Obj.cells #[Value.pointer none, Value.slice none 0 0] 43)).heap.size = w1.heap.size + 1 := by simp
    have HBA := Aside0.mk (show BAt (w1.heap.size + 2) w1.heap.size [] (Lib.bytesWorld (w1.alloc (Obj.cells #[Value.pointer none, Value.slice none 0 0] 43)) 5 s) from
      ⟨by omega, by rw [Lib.bytesWorld_size]; simp, .pointer none, .slice none 0 0, .inl rfl, by rw [Lib.bytesWorld_at_old _ _ _ _ (by simp)]; exact heap_alloc_new _ _, World.ownsRow_nil _ _ _ _⟩)
    have HCL := Aside0.mk (fun (j : Nat) (hj : j < s.size) => Lib.bytesWorld_cell (w1.alloc (Obj.cells #[Value.pointer none, Value.slice none 0 0] 43)) 5 s j hj)
    have HB2 := Aside0.mk (below_then (HB1.out.alloc HB1.out.size (Obj.cells #[Value.pointer none, Value.slice none 0 0] 43)) (by have := HB1.out.size; simp; omega) (Lib.bytesWorld_below (w1.alloc (Obj.cells #[Value.pointer none, Value.slice none 0 0] 43)) 5 s))
    obtain ⟨cap, hcap⟩ : ∃ cap, grownCap (w1.alloc (Obj.cells #[Value.pointer none, Value.slice none 0 0] 43)) s.size 0 5 = cap := ⟨_, rfl⟩
    rw [hcap]
    rw [hsz1] at HCL
    obtain ⟨W, hW⟩ : ∃ W, Lib.bytesWorld (w1.alloc (Obj.cells #[Value.pointer none, Value.slice none 0 0] 43)) 5 s = W := ⟨_, rfl⟩
    rw [hW] at HBA HCL HB2 ⊢
    rw [hsz1]
    obtain ⟨b, hb⟩ : ∃ b, w1.heap.size = b := ⟨_, rfl⟩
    rw [hb] at HBA HCL ⊢
    have Hbw := Aside0.mk (show w.heap.size ≤ b by have := HB1.out.size; omega)
    clear hcap hsz1 hW hA hff hb HB1
    show Oper.upon _ _ _ _ _ (Result.ok (Next.value (.slice (some ⟨b + 1, 0, none⟩) s.size cap)) W)
    go_wp2_with (fail)
    go_loopg [6, 13] s.size (fun g _ v13 wx => ∃ i : Nat, Aside0 (i + g = s.size) ∧ v13 = .int .i64 i ∧ Aside0 (BAt (b + 2) b (Lib.byteCells (segL ((L s).take i))) wx) ∧ Aside0 (∀ k, k < b + 2 → k ≠ b → wx.heap[k]? = W.heap[k]?) ∧ Aside0 (Below w.heap.size w wx))
    case atStart => exact ⟨0, ⟨by omega⟩, rfl, HBA, ⟨fun _ _ _ => rfl⟩, HB2⟩
    case round =>
      obtain ⟨i, HG, rfl, HI, HK, HB⟩ := hrel
      clear HBA HB2
      by_cases hi : i < s.size
      · have hii : decide ((i : Int) < (s.size : Int)) = true := decide_eq_true (by omega)
        have hi0 : (0 : Int) ≤ (i : Int) := by omega
        have hi1 : (i : Int) < (s.size : Int) := by omega
        obtain ⟨c, hc⟩ : ∃ c, (L s).getD i 0 = c := ⟨_, rfl⟩
        have hcell : wr.cell? ⟨b + 1, i, none⟩ = some (.int .u8 c.toNat) := by
          rw [← hc, ← HCL.out i hi]
          exact World.cell?_of_block (HK.out (b + 1) (by omega) (by omega))
        have hci : (L s)[i]? = some c := by
          rw [← hc, List.getD_eq_getElem?_getD, List.getElem?_eq_getElem (by rw [← size_L]; exact hi)]; rfl
        have HT := Aside0.mk (show segL ((L s).take (i + 1)) = segL ((L s).take i) ++ esc c by
          rw [List.take_add_one, hci, Option.toList_some, segL_snoc])
        have HLN := Aside0.mk (show (segL ((L s).take i)).length ≤ 3221225472 by
          have := segL_length ((L s).take i)
          rw [List.length_take, ← size_L] at this
          have := HS.out; omega)
        obtain ⟨acc, hacc⟩ : ∃ acc, segL ((L s).take i) = acc := ⟨_, rfl⟩
        rw [hacc] at HI HT HLN
        clear hc hci hacc hi
        by_cases hbc : bare c = true
        · have HT2 := Aside0.mk (show segL ((L s).take (i + 1)) = acc ++ [c] by rw [HT.out]; simp only [esc, hbc, if_true])
          go_wp2_with (go_at_call 17; refine (plain_calls c _).mono ?_; rintro e w2 ⟨rfl, hb2⟩; rw [hbc])
          have HI2 := Aside0.mk (batB_below HI.out hb2)
          have HF2 := Aside0.mk (frB_of_below hb2 HI.out.2.1 (by omega : b ≤ b + 2))
          clear hb2 hbc
          refine (putB (b + 2) b acc c w2 HI2.out (by have := HLN.out; omega)).mono ?_
          rintro e w3 ⟨rfl, hi3, hf3⟩
          have HI3 := Aside0.mk hi3
          have HF3 := Aside0.mk (HF2.out.trans hf3)
          clear hi3 hf3
          go_wp2_with (fail)
          go_roundg (s.size - (i + 1))
          case measure => have := HG.out; omega
          case rel => exact ⟨i + 1, ⟨by have := HG.out; omega⟩, congrArg (Value.int .i64) (show wrap64 ((i : Int) + 1) = ((i + 1 : Nat) : Int) by have := HS.out; rw [By.wrap_in (by omega) (by omega)]; rfl), ⟨by rw [HT2.out]; exact HI3.out⟩, ⟨fun k hk hkb => (HF3.out.2 k hk hkb).trans (HK.out k hk hkb)⟩, ⟨HB.out.trans ⟨HF3.out.1.os, HF3.out.1.tape, HF3.out.1.output, HF3.out.1.size, fun k hk => HF3.out.1.block k (by have := Hbw.out; omega)⟩⟩⟩
        · have b1 : (0 : Int) ≤ (c.toNat : Int) / 16 := by omega
          have b2 : (c.toNat : Int) / 16 < 16 := by have := c.toNat_lt; omega
          have n1 : c.toNat / 16 < 16 := by have := c.toNat_lt; omega
          have n2 : c.toNat % 16 < 16 := by omega
          have e1 : (⟨#[48, 49, 50, 51, 52, 53, 54, 55, 56, 57, 65, 66, 67, 68, 69, 70]⟩ : ByteArray)[c.toNat / 16]'n1 = dig (c.toNat / 16) := dig_get _ n1
          have e2 : (⟨#[48, 49, 50, 51, 52, 53, 54, 55, 56, 57, 65, 66, 67, 68, 69, 70]⟩ : ByteArray)[c.toNat % 16]'n2 = dig (c.toNat % 16) := dig_get _ n2
          have e3 : bits .and .u8 (c.toNat : Int) 15 = ((c.toNat % 16 : Nat) : Int) := and15 c
          have b3 : (0 : Int) ≤ ((c.toNat % 16 : Nat) : Int) := by omega
          have b4 : ((c.toNat % 16 : Nat) : Int) < 16 := by omega
          have hbc' : bare c = false := by simpa using hbc
          have HT2 := Aside0.mk (show segL ((L s).take (i + 1)) = ((acc ++ [37]) ++ [dig (c.toNat / 16)]) ++ [dig (c.toNat % 16)] by rw [HT.out]; simp [esc, hbc'])
          go_wp2_with (go_at_call 17; refine (plain_calls c _).mono ?_; rintro e w2 ⟨rfl, hb2⟩; rw [hbc'])
          have HI2 := Aside0.mk (batB_below HI.out hb2)
          have HF2 := Aside0.mk (frB_of_below hb2 HI.out.2.1 (by omega : b ≤ b + 2))
          clear hb2 hbc
          refine (putB (b + 2) b acc 37 w2 HI2.out (by have := HLN.out; omega)).mono ?_
          rintro e w3 ⟨rfl, hi3, hf3⟩
          have HI3 := Aside0.mk hi3
          have HF3 := Aside0.mk (HF2.out.trans hf3)
          clear hi3 hf3
          go_wp2_with (fail)
          refine (putB (b + 2) b (acc ++ [37]) (dig (c.toNat / 16)) w3 HI3.out (by have := HLN.out; simp; omega)).mono ?_
          rintro e w4 ⟨rfl, hi4, hf4⟩
          have HI4 := Aside0.mk hi4
          have HF4 := Aside0.mk (HF3.out.trans hf4)
          clear hi4 hf4
          go_wp2_with (fail)
          refine (putB (b + 2) b ((acc ++ [37]) ++ [dig (c.toNat / 16)]) (dig (c.toNat % 16)) w4 HI4.out (by have := HLN.out; simp; omega)).mono ?_
          rintro e w5 ⟨rfl, hi5, hf5⟩
          have HI5 := Aside0.mk hi5
          have HF5 := Aside0.mk (HF4.out.trans hf5)
          clear hi5 hf5
          go_wp2_with (fail)
          go_roundg (s.size - (i + 1))
          case measure => have := HG.out; omega
          case rel => exact ⟨i + 1, ⟨by have := HG.out; omega⟩, congrArg (Value.int .i64) (show wrap64 ((i : Int) + 1) = ((i + 1 : Nat) : Int) by have := HS.out; rw [By.wrap_in (by omega) (by omega)]; rfl), ⟨by rw [HT2.out]; exact HI5.out⟩, ⟨fun k hk hkb => (HF5.out.2 k hk hkb).trans (HK.out k hk hkb)⟩, ⟨HB.out.trans ⟨HF5.out.1.os, HF5.out.1.tape, HF5.out.1.output, HF5.out.1.size, fun k hk => HF5.out.1.block k (by have := Hbw.out; omega)⟩⟩⟩
      · have hie : i = s.size := by have := HG.out; omega
        subst hie
        have HL := Aside0.mk (show (L s).take s.size = L s by rw [size_L, List.take_length])
        clear hi
        go_wp2_with (fail)
        refine (Tryd.Builder_String_any b b (segL (L s)) wr (by have := batB_builder HI.out; rwa [HL.out] at this) (by have := HI.out.2.1; omega)).mono ?_
        rintro e w2 ⟨rfl, hb2⟩
        go_wp2_with (fail)
        go_ret2
        exact ⟨by rw [HR.out]; rfl, HB.out.trans ⟨hb2.os, hb2.tape, hb2.output, hb2.size, fun k hk => hb2.block k (by have := Hbw.out; omega)⟩⟩
  · have hf' : fitsB s = false := by simpa using hf
    rw [hf'] at hff
    have HR := Aside0.mk (show R = (⟨#[]⟩, 60) by rw [← hR]; simp only [segOut, hf', Bool.false_eq_true, if_false])
    clear hE hs hR hf hf'
    go_enter Tryd.func8, Tryd.ntmps8
    go_wp2_with (go_at_call 16; refine (path_fits.calls s false _ HE.out hff).mono ?_; rintro e w1 ⟨rfl, hb1⟩)
    go_ret2
    exact ⟨by rw [HR.out]; rfl, hb1⟩
end Go.Proofs.YtpifopiopgbbaaaDoor.Pc
