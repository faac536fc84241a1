/- path.text, for every string of at most 2^30 bytes: what it answers. -/
import Derived.Deep.RegionHeld3
import Derived.Test.YtpifopiopgbbaaaDoorBytes
import Derived.Test.YtpifopiopgbbaaaDoorExtC
namespace Go.Proofs.YtpifopiopgbbaaaDoor.Pc
open Go.Shelf Go.RowKit Go.Proofs.YtpifopiopgbbaaaDoorW.PrintWords Pb
open By (L size_L L_mk mk_L L_extract L_to L_from)

abbrev Bs := List UInt8
def digits : ByteArray := ⟨#[48, 49, 50, 51, 52, 53, 54, 55, 56, 57, 65, 66, 67, 68, 69, 70]⟩
def hexv (c : UInt8) : Int := Lib.indexByte digits.data.toList (Pa.up c)
/-- may a byte stand as it is? -/
def bare (c : UInt8) : Bool := (97 ≤ c && c ≤ 122) || (65 ≤ c && c ≤ 90) || (48 ≤ c && c ≤ 57) || c == 45 || c == 46 || c == 95 || c == 126
set_option maxRecDepth 100000 in
theorem plain_f (c : UInt8) : Pa.path_plain.f (c.toNat : Int) = some (bare c) := by
  have key : ∀ X : Fin 256, Pa.path_plain.f ((X.val : Nat) : Int) = some (bare (UInt8.ofNat X.val)) := by decide
  have h := key ⟨c.toNat, c.toNat_lt⟩
  simpa only [UInt8.ofNat_toNat] using h
theorem plain_calls (c : UInt8) (w : World) : Calls Tryd.prog 17 #[.int .u8 c.toNat] w fun e w' => e = .returned (.bool (bare c)) ∧ Below w.heap.size w w' :=
  Pa.path_plain.calls c.toNat (bare c) w (plain_f c)
def fitsB (s : ByteArray) : Bool := (path_fits.f s).getD false
theorem fits_f (s : ByteArray) (h : s.size ≤ 9223372036854775807) : path_fits.f s = some (fitsB s) := by
  unfold fitsB path_fits.f char_Valid.f
  rw [if_pos h]
  simp only [Option.bind_some]
  repeat' split
  all_goals rfl
/-- A byte told by two digits. -/
def hexb (h k : UInt8) : UInt8 := UInt8.ofNat (16 * (hexv h).toNat + (hexv k).toNat)
def textL : Bs → Option Bs
  | [] => some []
  | c :: l => if c = 37 then (match l with
      | h :: k :: m => if hexv h < 0 ∨ hexv k < 0 then none else (textL m).map (hexb h k :: ·)
      | _ => none)
    else if bare c then (textL l).map (c :: ·) else none
def textOut (o : Option Bs) : ByteArray × Int :=
  match o with
  | some b => if fitsB ⟨b.toArray⟩ then (⟨b.toArray⟩, 0) else (⟨#[]⟩, 60)
  | none => (⟨#[]⟩, 60)
theorem bat_below {T e : TypeId} {B b : Nat} {bs : List Value} {w w' : World} (h : Lib.IsBuilder T e B b bs w) (hb : Below w.heap.size w w') : Lib.IsBuilder T e B b bs w' := by
  have one : ∀ p, Lib.BuilderAt T e B b p bs w → Lib.BuilderAt T e B b p bs w' := by
    intro p hp
    have hlt := hp.lt
    obtain ⟨h1, v, h2, h3, h4⟩ := hp
    exact ⟨h1, v, (hb.block _ hlt).trans h2, pw_own_below h3 hb, h4⟩
  exact h.imp (one _) (one _)
theorem batF_below {T e : TypeId} {B b : Nat} {bs : List Value} {w w' : World} (h : Lib.IsBuilderF T e B b bs w) (hb : Below w.heap.size w w') : Lib.IsBuilderF T e B b bs w' := by
  have one : ∀ p, Lib.BuilderAtF T e B b p bs w → Lib.BuilderAtF T e B b p bs w' := by
    intro p hp
    have hlt := hp.lt
    obtain ⟨h1, v, h2, h3, h4⟩ := hp
    exact ⟨h1, v, (hb.block _ hlt).trans h2, h3.kept (row := none) ⟨hb.os, hb.tape, hb.output, hb.size, fun k hk _ => hb.block k hk⟩ (by cases hv : v.ownBlock with | none => exact .inl rfl | some g => exact .inr (by simp)), h4⟩
  exact h.imp (one _) (one _)
theorem index_up (c : UInt8) (w : World) :
    Calls Tryd.prog 26 #[.string digits, .int .u8 (Pa.up c).toNat] w fun e w' => e = .returned (.int .i64 (hexv c)) ∧ w' = w := by
  have := Tryd.strings_IndexByte digits ((Pa.up c).toNat : Int) w
  simpa [hexv] using this
theorem byteCells_snoc (acc : Bs) (c : UInt8) : Lib.byteCells (acc ++ [c]) = Lib.byteCells acc ++ [.int .u8 c.toNat] := by
  rw [Lib.byteCells_append]; rfl
theorem put_calls (b : Nat) (acc : Bs) (c : UInt8) (w : World) (h : Lib.IsBuilder 43 5 b b (Lib.byteCells acc) w) (hlen : acc.length ≤ 1073741824) (hBw : b ≤ w.heap.size) :
    Calls Tryd.prog 18 #[.pointer (some ⟨b, 0, none⟩), .int .u8 c.toNat] w fun e w' => e = .returned .nilIface ∧ Lib.IsBuilder 43 5 b b (Lib.byteCells (acc ++ [c])) w' ∧ Below b w w' := by
  refine (Tryd.Builder_WriteByte b b (Lib.byteCells acc) c.toNat w h (by rw [Lib.byteCells_length]; omega) hBw).mono ?_
  rintro e w' ⟨rfl, h1, h2⟩
  exact ⟨rfl, .inr (by rw [byteCells_snoc]; exact h1), h2⟩
def St (b : Nat) (acc : Bs) (w wx : World) : Prop := Lib.IsBuilder 43 5 b b (Lib.byteCells acc) wx ∧ Below b w wx
theorem St.later {b : Nat} {acc : Bs} {w w1 w2 : World} (h : St b acc w w1) (hb : Below w1.heap.size w1 w2) (hbw : b ≤ w.heap.size) : St b acc w w2 :=
  ⟨bat_below h.1 hb, below_then h.2 (Nat.le_trans hbw h.2.size) hb⟩
theorem St.later2 {b : Nat} {acc : Bs} {w w1 w2 : World} (hb : Below w1.heap.size w1 w2) (h : St b acc w w1) (hbw : b ≤ w.heap.size) : St b acc w w2 := h.later hb hbw
theorem St.drew {b : Nat} {acc : Bs} {w w1 : World} (h : St b acc w w1) : St b acc w w1.drew := ⟨h.1.imp Lib.BuilderAt.drew Lib.BuilderAt.drew, h.2.drew⟩
theorem textL_cons37_short (l : Bs) (h : l.length < 2) : textL (37 :: l) = none := by
  match l, h with
  | [], _ => rfl
  | [x], _ => rfl
theorem textL_cons37 (h k : UInt8) (m : Bs) : textL (37 :: h :: k :: m) = if hexv h < 0 ∨ hexv k < 0 then none else (textL m).map (hexb h k :: ·) := by
  rw [textL]; rfl
theorem textL_cons (c : UInt8) (l : Bs) (h : ¬ c = 37) : textL (c :: l) = if bare c then (textL l).map (c :: ·) else none := by
  rw [textL.eq_def]; simp only [h, if_false]
theorem get_L (r : ByteArray) (i : Nat) (h : i < r.size) (c : UInt8) (hc : (L r)[i]? = some c) : r[i]'h = c := by
  rw [Array.getElem?_toList] at hc
  have : r.data[i]? = some c := hc
  obtain ⟨h1, h2⟩ := Array.getElem?_eq_some_iff.1 this
  exact h2
set_option maxRecDepth 100000 in
theorem hexv_range (c : UInt8) : -1 ≤ hexv c ∧ hexv c < 16 := by
  have key : ∀ X : Fin 256, -1 ≤ hexv (UInt8.ofNat X.val) ∧ hexv (UInt8.ofNat X.val) < 16 := by decide
  have h := key ⟨c.toNat, c.toNat_lt⟩
  simpa only [UInt8.ofNat_toNat] using h
set_option maxRecDepth 100000 in
theorem hexb_bits (h k : UInt8) (h0 : 0 ≤ hexv h) (k0 : 0 ≤ hexv k) : bits .or .i64 (wrap64 (hexv h * 16)) (hexv k) % 256 = ((hexb h k).toNat : Int) := by
  have key : ∀ X Y : Fin 16, bits .or .i64 (wrap64 (((X.val : Nat) : Int) * 16)) ((Y.val : Nat) : Int) % 256 = ((UInt8.ofNat (16 * X.val + Y.val)).toNat : Int) := of_decide_eq_true (by kernel_rfl)
  have hh := hexv_range h
  have hk := hexv_range k
  obtain ⟨x, hx⟩ : ∃ x : Nat, hexv h = x := ⟨(hexv h).toNat, by omega⟩
  obtain ⟨y, hy⟩ : ∃ y : Nat, hexv k = y := ⟨(hexv k).toNat, by omega⟩
  unfold hexb
  have x16 : x < 16 := by omega
  have y16 : y < 16 := by omega
  rw [hx, hy]
  exact key ⟨x, x16⟩ ⟨y, y16⟩
theorem text_calls (s : ByteArray) (w : World) (hs : s.size ≤ 1073741824) (hE : Env w) :
    Calls Tryd.prog 23 #[.string s] w fun e w' => e = .returned (.tuple #[.string (textOut (textL (L s))).1, .int .i64 (textOut (textL (L s))).2]) ∧ Below w.heap.size w w' := by
  have HE := Aside0.mk hE
  have HS := Aside0.mk hs
  obtain ⟨R, hR⟩ : ∃ R, textOut (textL (L s)) = R := ⟨_, rfl⟩
  rw [hR]
  have HR := Aside0.mk hR
  clear hE hs hR
  go_enter Tryd.func23, Tryd.ntmps23
  go_wp2_with (fail)
  go_loopg [0, 5, 6, 7] s.size (fun g v0 _ _ _ wx => ∃ (r : ByteArray) (acc : Bs), Aside0 (r.size = g) ∧ v0 = .string r ∧ Aside0 (acc.length + r.size ≤ 1073741824) ∧ Aside0 (textL (L s) = (textL (L r)).map (acc ++ ·)) ∧ Aside0 (St w.heap.size acc w wx))
  case atStart => exact ⟨s, [], ⟨rfl⟩, rfl, ⟨by have := HS.out; simpa using this⟩, ⟨by cases textL (L s) <;> rfl⟩, ⟨Lib.fresh_isBuilder 43 5 w, (Below.refl _ _).alloc (Nat.le_refl _) _⟩⟩
  case round =>
    obtain ⟨r, acc, HG, rfl, HN, HT, HI⟩ := hrel
    by_cases h0 : r.size = 0
    · have hr0 : L r = [] := List.eq_nil_of_length_eq_zero (by rw [← size_L]; exact h0)
      have hne : r.toList = [] := by rw [By.toList_L]; exact hr0
      have hem : (!r.toList.isEmpty) = false := by rw [hne]; rfl
      have HO := Aside0.mk (show textOut (some acc) = R by rw [← HR.out, HT.out, hr0]; simp [textL])
      have HA := Aside0.mk (show (⟨acc.toArray⟩ : ByteArray).size ≤ 9223372036854775807 by have := HN.out; rw [size_L, L_mk]; omega)
      clear h0 hr0
      go_wp2_with (fail)
      refine (Tryd.Builder_String_any_f w.heap.size w.heap.size acc wr (Lib.IsBuilderF.of HI.out.1) HI.out.2.size).mono ?_
      rintro e w1 ⟨rfl, hi1, hb1⟩
      have HI1 := Aside0.mk hi1
      have HB1 := Aside0.mk (HI.out.2.trans hb1)
      clear hi1 hb1
      go_wp2_with (fail)
      have hff := fits_f ⟨acc.toArray⟩ HA.out
      by_cases hf : fitsB ⟨acc.toArray⟩ = true
      · rw [hf] at hff
        refine (path_fits.calls ⟨acc.toArray⟩ true w1 (env_at HE.out HB1.out) hff).mono ?_
        rintro e w2 ⟨rfl, hb2⟩
        have HO2 := Aside0.mk (show R = (⟨acc.toArray⟩, 0) by rw [← HO.out]; simp only [textOut, hf, if_true])
        clear hf hff
        have HI2 := Aside0.mk (show Lib.IsBuilderF 43 5 w.heap.size w.heap.size (Lib.byteCells acc) w2 from batF_below HI1.out hb2)
        have HB2 := Aside0.mk (below_then HB1.out HB1.out.size hb2)
        clear hb2
        go_wp2_with (fail)
        refine (Tryd.Builder_String_any_f w.heap.size w.heap.size acc w2 HI2.out HB2.out.size).mono ?_
        rintro e w3 ⟨rfl, hi3, hb3⟩
        go_wp2_with (fail)
        go_ret2
        exact ⟨by rw [HO2.out]; rfl, HB2.out.trans hb3⟩
      · have hf' : fitsB ⟨acc.toArray⟩ = false := by simpa using hf
        rw [hf'] at hff
        refine (path_fits.calls ⟨acc.toArray⟩ false w1 (env_at HE.out HB1.out) hff).mono ?_
        rintro e w2 ⟨rfl, hb2⟩
        have HO2 := Aside0.mk (show R = (⟨#[]⟩, 60) by rw [← HO.out]; simp only [textOut, hf', Bool.false_eq_true, if_false])
        clear hf hff hf'
        go_wp2_with (fail)
        go_ret2
        exact ⟨by rw [HO2.out]; rfl, below_then HB1.out HB1.out.size hb2⟩
    · have hne0 : L r ≠ [] := by intro e; apply h0; rw [size_L, e]; rfl
      have hem : (!r.toList.isEmpty) = true := by
        rw [By.toList_L]
        cases hL : L r with
        | nil => exact absurd hL hne0
        | cons x l => rfl
      obtain ⟨c, l, hL⟩ := List.exists_cons_of_ne_nil hne0
      have p0 : 0 < r.size := by omega
      have hx : r[0]'p0 = c := get_L r 0 p0 c (by rw [hL]; rfl)
      obtain ⟨q, hq⟩ : ∃ q, r.extract 1 r.size = q := ⟨_, rfl⟩
      have HQ := Aside0.mk (show L q = l by rw [← hq, L_to, hL]; rfl)
      have HQs := Aside0.mk (show q.size + 1 = r.size by rw [size_L, HQ.out, size_L, hL]; rfl)
      have p0i : (0 : Int) < (r.size : Int) := by omega
      have p1i : (1 : Int) ≤ (r.size : Int) := by omega
      have HL := Aside0.mk hL
      clear h0 hne0 hL
      by_cases hc : c = 37
      · subst hc
        by_cases h2 : q.size < 2
        · have hd : decide ((q.size : Int) < 2) = true := decide_eq_true (by omega)
          have HO := Aside0.mk (show R = (⟨#[]⟩, 60) by
            rw [← HR.out, HT.out, HL.out, textL_cons37_short l (by rw [← HQ.out, ← size_L]; exact h2)]
            rfl)
          clear h2
          go_wp2_with (fail)
          go_ret2
          exact ⟨by rw [HO.out]; rfl, HI.out.2⟩
        · have hd : decide ((q.size : Int) < 2) = false := decide_eq_false (by omega)
          obtain ⟨h, k, m, hm⟩ : ∃ h k m, l = h :: k :: m := by
            have : 2 ≤ l.length := by rw [← HQ.out, ← size_L]; omega
            match l, this with
            | h :: k :: m, _ => exact ⟨h, k, m, rfl⟩
          have q0 : 0 < q.size := by omega
          have q1 : 1 < q.size := by omega
          have hy0 : q[0]'q0 = h := get_L q 0 q0 h (by rw [HQ.out, hm]; rfl)
          have hy1 : q[1]'q1 = k := get_L q 1 q1 k (by rw [HQ.out, hm]; rfl)
          have q0i : (0 : Int) < (q.size : Int) := by omega
          have q1i : (1 : Int) < (q.size : Int) := by omega
          have q2i : (2 : Int) ≤ (q.size : Int) := by omega
          have HM := Aside0.mk hm
          have HSt := HI.out
          clear h2 hm
          go_wp2_with (fail)
          go_region_held3 (fun wx => St w.heap.size acc w wx) (first | assumption | exact St.drew (by assumption) | exact St.later2 (by assumption) (by assumption) (Nat.le_refl _)) (first | (go_at_call 30; refine (Pa.upper_one _ _).mono ?_; rintro e w' ⟨rfl, hb⟩) | (go_at_call 26; refine (index_up _ _).mono ?_; rintro e w' ⟨rfl, rfl⟩))
          all_goals
            rename_i HeldX
            have HX := Aside0.mk HeldX
            clear HeldX HSt HI
            by_cases hbad : hexv h < 0 ∨ hexv k < 0
            · have HO := Aside0.mk (show R = (⟨#[]⟩, 60) by
                rw [← HR.out, HT.out, HL.out, HM.out, textL_cons37, if_pos hbad]; rfl)
              by_cases hh : hexv h < 0
              · have d1 := decide_eq_true hh
                clear hbad hh
                go_wp2_with (fail)
                go_ret2
                exact ⟨by rw [HO.out]; rfl, HX.out.2⟩
              · have d1 := decide_eq_false hh
                have d2 : decide (hexv k < 0) = true := decide_eq_true (hbad.resolve_left hh)
                clear hbad hh
                go_wp2_with (fail)
                go_ret2
                exact ⟨by rw [HO.out]; rfl, HX.out.2⟩
            · have d1 : decide (hexv h < 0) = false := decide_eq_false (fun e => hbad (.inl e))
              have d2 : decide (hexv k < 0) = false := decide_eq_false (fun e => hbad (.inr e))
              have HT2 := Aside0.mk (show textL (L s) = (textL m).map ((acc ++ [hexb h k]) ++ ·) by
                rw [HT.out, HL.out, HM.out, textL_cons37, if_neg hbad, Option.map_map]
                congr 1
                funext x; simp)
              have HBt := Aside0.mk (hexb_bits h k (by have := hexv_range h; omega) (by have := hexv_range k; omega))
              have HQm := Aside0.mk (show L (q.extract 2 q.size) = m by rw [L_to, HQ.out, HM.out]; rfl)
              have HQn := Aside0.mk (show (q.extract 2 q.size).size + 3 = r.size by rw [size_L, HQm.out, ← HQs.out, size_L, HQ.out, HM.out]; simp)
              clear hbad
              go_wp2_with (fail)
              rw [HBt.out]
              refine (put_calls w.heap.size acc (hexb h k) _ HX.out.1 (by have := HN.out; omega) HX.out.2.size).mono ?_
              rintro e w2 ⟨rfl, hi2, hb2⟩
              have HI2 := Aside0.mk (show St w.heap.size (acc ++ [hexb h k]) w w2 from ⟨hi2, HX.out.2.trans hb2⟩)
              clear hi2 hb2
              go_wp2_with (fail)
              go_roundg (q.extract 2 q.size).size
              case measure => have := HQn.out; have := HG.out; omega
              case rel => exact ⟨q.extract 2 q.size, acc ++ [hexb h k], ⟨rfl⟩, rfl, ⟨by have := HN.out; have := HQn.out; rw [List.length_append, List.length_singleton]; omega⟩, ⟨by rw [HT2.out, HQm.out]⟩, HI2⟩
      · have hcb : ((c.toNat : Int) == 37) = false := by
          rw [beq_eq_false_iff_ne]
          intro e
          apply hc
          have : c.toNat = (37 : UInt8).toNat := by have : c.toNat = 37 := by omega
                                                    exact this
          exact UInt8.toNat_inj.1 this
        have HTc := Aside0.mk (textL_cons c l hc)
        clear hc
        by_cases hbc : bare c = true
        · have HT2 := Aside0.mk (show textL (L s) = (textL (L q)).map ((acc ++ [c]) ++ ·) by
            rw [HT.out, HL.out, HTc.out, if_pos hbc, HQ.out, Option.map_map]
            congr 1
            funext x; simp)
          go_wp2_with (go_at_call 17; refine (plain_calls c _).mono ?_; rintro e w1 ⟨rfl, hb1⟩; rw [hbc])
          have HI1 := Aside0.mk (St.later HI.out hb1 (Nat.le_refl _))
          clear hb1 hbc
          refine (put_calls w.heap.size acc c w1 HI1.out.1 (by have := HN.out; omega) HI1.out.2.size).mono ?_
          rintro e w2 ⟨rfl, hi2, hb2⟩
          have HI2 := Aside0.mk (show St w.heap.size (acc ++ [c]) w w2 from ⟨hi2, HI1.out.2.trans hb2⟩)
          clear hi2 hb2
          go_wp2_with (fail)
          go_roundg q.size
          case measure => have := HQs.out; have := HG.out; omega
          case rel => exact ⟨q, acc ++ [c], ⟨rfl⟩, rfl, ⟨by have := HN.out; have := HQs.out; rw [List.length_append, List.length_singleton]; omega⟩, HT2, HI2⟩
        · have hbc' : bare c = false := by simpa using hbc
          have HO := Aside0.mk (show R = (⟨#[]⟩, 60) by
            rw [← HR.out, HT.out, HL.out, HTc.out, if_neg hbc]; rfl)
          go_wp2_with (go_at_call 17; refine (plain_calls c _).mono ?_; rintro e w1 ⟨rfl, hb1⟩; rw [hbc'])
          go_ret2
          exact ⟨by rw [HO.out]; rfl, below_then HI.out.2 HI.out.2.size hb1⟩
end Go.Proofs.YtpifopiopgbbaaaDoor.Pc
