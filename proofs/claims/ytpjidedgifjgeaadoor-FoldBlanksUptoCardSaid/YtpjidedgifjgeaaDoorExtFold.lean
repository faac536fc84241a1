/- fold.Fold, for every list of lines whose bytes and number are together at most 2^30: the lines, folded. -/
import Derived.Test.YtpjidedgifjgeaaDoorExtAny
import Derived.Test.YtpjidedgifjgeaaDoorPax1
import Derived.Test.YtpjidedgifjgeaaDoorBytes
namespace Go.Proofs.YtpjidedgifjgeaaDoor.Pf
open Go.RowKit Go.Proofs.YtpjidedgifjgeaaDoorW.PrintWords
open By (L size_L L_mk L_extract L_to L_from wrap_in)

theorem piece_loop (s : ByteArray) (most : Nat) (hs : s.size ≤ 1073741824) : ∀ (d n k : Nat), s.size - n = d → n ≤ s.size → d < k →
    Pa.fold_piece.l0 k s most n = some (s.extract 0 (Ch.pieceN most n (Ch.chars ((L s).drop n)))) := by
  intro d
  induction d using Nat.strongRecOn with
  | _ d ih =>
    intro n k hd hn hk
    obtain ⟨k, rfl⟩ : ∃ m, k = m + 1 := ⟨k - 1, by omega⟩
    have hl := size_L s
    simp only [Pa.fold_piece.l0]
    by_cases h : n < s.size
    · rw [if_pos (by omega), if_pos (by omega), if_pos (by omega)]
      have hne : (L s).drop n ≠ [] := by intro e; have := congrArg List.length e; simp at this; omega
      have h1 := Ch.chr_pos hne
      have h2 := Ch.chr_le ((L s).drop n)
      have h3 := Ch.take_chr_length ((L s).drop n)
      rw [List.length_drop] at h2
      simp only [Pa.utf8_DecodeRuneInString.f, Option.bind_some, By.decodeGo_chr, Int.toNat_natCast, L_to]
      rw [Ch.chars_cons hne]
      simp only [Ch.pieceN, h3, List.drop_drop]
      have hi := ih (s.size - (n + Ch.chr ((L s).drop n))) (by omega) (n + Ch.chr ((L s).drop n)) k rfl (by omega) (by omega)
      have hw : wrap64 ((n : Int) + (Ch.chr ((L s).drop n) : Int)) = ((n + Ch.chr ((L s).drop n) : Nat) : Int) := by
        rw [wrap_in (by omega) (by omega)]; push_cast; rfl
      rw [hw, hi]
      clear hw hi
      by_cases h0 : 0 < n
      · rw [if_pos (by omega)]
        by_cases hb : most < n + Ch.chr ((L s).drop n)
        · rw [if_pos (by omega), if_pos ⟨h0, hb⟩]
        · rw [if_neg (by omega), if_neg (by omega)]
      · rw [if_neg (by omega), if_neg (by omega)]
    · obtain rfl : n = s.size := by omega
      rw [if_neg (by omega), if_pos (by omega), if_pos (by omega), List.drop_eq_nil_of_le (by omega)]
      simp [Ch.chars_nil, Ch.pieceN]
theorem piece_any (s : ByteArray) (most : Nat) (hs : s.size ≤ 1073741824) :
    Pa.fold_piece.f (s.size + 1) s most = some (s.extract 0 (Ch.pieceL most (L s))) := by
  have := piece_loop s most hs s.size 0 (s.size + 1) (by omega) (by omega) (by omega)
  simpa [Pa.fold_piece.f, Ch.pieceL] using this
/-- fold.piece, as a call. -/
theorem piece_calls (s : ByteArray) (most : Nat) (w : World) (hs : s.size ≤ 1073741824) (hE : Env w) :
    Calls Tryd.prog 19 #[.string s, .int .i64 most] w fun e w' => e = .returned (.string (s.extract 0 (Ch.pieceL most (L s)))) ∧ Below w.heap.size w w' :=
  Pa.fold_piece.calls (s.size + 1) s most _ w hE (piece_any s most hs)

/-! ### A builder, behind what lays blocks alone -/
theorem builder_below {T e : TypeId} {B b : Nat} {bs : List Value} {w w' : World} (h : Lib.IsBuilder T e B b bs w) (hb : Below w.heap.size w w') : Lib.IsBuilder T e B b bs w' := by
  have one : ∀ p, Lib.BuilderAt T e B b p bs w → Lib.BuilderAt T e B b p bs w' := by
    intro p hp
    have hlt := hp.lt
    obtain ⟨h1, v, h2, h3, h4⟩ := hp
    exact ⟨h1, v, (hb.block _ hlt).trans h2, pw_own_below h3 hb, h4⟩
  exact h.imp (one _) (one _)

/-- A write of s to the builder that holds the bytes acc. -/
theorem write_calls (B b : Nat) (acc : List UInt8) (s : ByteArray) (w : World) (h : Lib.IsBuilder 44 5 B b (Lib.byteCells acc) w) (hlen : (acc ++ L s).length ≤ 140737488355328) (hBw : B ≤ w.heap.size) :
    Calls Tryd.prog 20 #[.pointer (some ⟨b, 0, none⟩), .string s] w fun e w' => e = .returned (.tuple #[.int .i64 s.size, .nilIface]) ∧ Lib.IsBuilder 44 5 B b (Lib.byteCells (acc ++ L s)) w' ∧ Below B w w' := by
  refine (Tryd.Builder_WriteString B b (Lib.byteCells acc) s w h (by rw [Lib.byteCells_length, size_L]; simpa using hlen) hBw).mono ?_
  rintro e w' ⟨rfl, h1, h2⟩
  exact ⟨rfl, .inr (by rw [Lib.byteCells_append, ← Lib.strCells_eq]; exact h1), h2⟩

def foldRoom (l0 : List ByteArray) : Prop := (l0.map (·.size)).sum + l0.length ≤ 1073741824
instance (l0 : List ByteArray) : Decidable (foldRoom l0) := inferInstanceAs (Decidable (_ ≤ _))
def fold_Fold.f (l0 : List ByteArray) : Option ByteArray :=
  if foldRoom l0 then some ⟨(Ch.foldAll (l0.map L)).toArray⟩ else none

theorem size_le_sum {l0 : List ByteArray} {s : ByteArray} (h : s ∈ l0) : s.size ≤ (l0.map (·.size)).sum := by
  induction l0 with
  | nil => cases h
  | cons x r ih =>
    simp only [List.map_cons, List.sum_cons]
    rcases List.mem_cons.1 h with rfl | h
    · omega
    · have := ih h; omega
theorem foldAll_prefix (l0 : List ByteArray) (i : Nat) : (Ch.foldAll ((l0.take i).map L)).length ≤ (Ch.foldAll (l0.map L)).length := by
  have h2 : Ch.foldAll (l0.map L) = Ch.foldAll ((l0.take i).map L) ++ Ch.foldAll ((l0.drop i).map L) := by
    conv => lhs; rw [← List.take_append_drop i l0, List.map_append]
    simp only [Ch.foldAll, List.map_append, List.flatten_append]
  rw [h2, List.length_append]; omega
theorem foldAll_bound {l0 : List ByteArray} (h : foldRoom l0) : (Ch.foldAll (l0.map L)).length ≤ 8589934592 := by
  have h1 := Ch.foldAll_length (l0.map L)
  have h2 : ((l0.map L).map (·.length)) = l0.map (·.size) := by
    rw [List.map_map]; exact List.map_congr_left fun s _ => (size_L s).symm
  rw [h2, List.length_map] at h1
  unfold foldRoom at h
  omega

set_option maxHeartbeats 1000000 in
set_option maxRecDepth 100000 in
theorem fold_Fold.calls (A0 : Option Addr) (c0 : Nat) (l0 : List ByteArray) (r : ByteArray) (w : World) (hr0 : Kd.C Kd.string w A0 l0.length l0) (_hc0 : l0.length ≤ c0) (hE : Env w) (h : fold_Fold.f l0 = some r) :
    Calls Tryd.prog 12 #[.slice A0 l0.length c0] w fun e w' => e = .returned (.string r) ∧ Below w.heap.size w w' := by
  unfold fold_Fold.f at h
  split at h
  case isFalse => cases h
  rename_i hroom
  simp only [Option.some.injEq] at h
  have Hr := Aside0.mk h
  have HE := Aside0.mk hE
  have HR := Aside0.mk hr0
  have HQ := Aside0.mk hroom
  have hlen : l0.length ≤ 1073741824 := by unfold foldRoom at hroom; omega
  clear h hE hr0 hroom
  go_enter Tryd.func12, Tryd.ntmps12
  go_wp2_with (fail)
  have HX := Aside0.mk (foldAll_bound HQ.out)
  have hlt : (0 : Int) ≤ (l0.length : Int) := by omega
  go_loopg [9] l0.length (fun g v9 wx => ∃ i : Nat, i + g = l0.length ∧ v9 = .int .i64 i ∧ Aside0 (Lib.IsBuilder 44 5 w.heap.size w.heap.size (Lib.byteCells (Ch.foldAll ((l0.take i).map L))) wx) ∧ Aside0 (Below w.heap.size w wx))
  case atStart => exact ⟨0, by omega, rfl, ⟨Lib.fresh_isBuilder 44 5 w⟩, ⟨(Below.refl _ _).alloc (Nat.le_refl _) _⟩⟩
  case round =>
    obtain ⟨i, hig, rfl, HI, HB⟩ := hrel
    cases gk with
    | zero =>
      obtain rfl : i = l0.length := by omega
      have c := Tryd.Builder_String_any w.heap.size w.heap.size (Ch.foldAll (l0.map L)) wr (by have := HI.out; rwa [List.take_length] at this) HB.out.size
      go_wp2_with (go_at_call 21; refine c.mono ?_; rintro e w' ⟨rfl, hb⟩)
      go_ret
      exact ⟨by rw [← Hr.out]; rfl, HB.out.trans hb⟩
    | succ g =>
      have hi : i < l0.length := by omega
      obtain ⟨l, hl⟩ : ∃ l, l0[i] = l := ⟨_, rfl⟩
      have hlm : l.size ≤ 1073741824 := by
        have h3 := HQ.out
        unfold foldRoom at h3
        have : l.size ≤ (l0.map (·.size)).sum := size_le_sum (by rw [← hl]; exact List.getElem_mem hi)
        omega
      obtain ⟨ad, hA, hc⟩ := Kd.at_string (Kd.C_below HR.out HB.out) (i : Int) (by omega) (by omega)
      have hrd : rdOf ByteArray.empty l0 (i : Int) = l := by unfold rdOf; rw [Int.toNat_natCast, List.getD_eq_getElem?_getD, List.getElem?_eq_getElem hi, hl]; rfl
      rw [hrd, Int.toNat_natCast] at hc
      have HS := Aside0.mk (show Ch.foldAll ((l0.take (i + 1)).map L) = Ch.foldAll ((l0.take i).map L) ++ Ch.foldL (L l) by
        rw [List.take_succ_eq_append_getElem hi, hl, List.map_append, List.map_singleton, Ch.foldAll_snoc])
      have HT := Aside0.mk (Nat.le_trans (foldAll_prefix l0 (i + 1)) HX.out)
      clear hrd hl
      obtain ⟨wo, rfl⟩ : ∃ wo : World, wo = wr := ⟨_, rfl⟩
      have HIl := Aside0.mk hlm
      subst hA
      clear hlm
      go_wp2_with (fail)
      refine (piece_calls l 75 wo HIl.out (env_at HE.out HB.out)).mono ?_
      rintro e w1 ⟨rfl, hb1⟩
      have HB1 := Aside0.mk (below_then HB.out HB.out.size hb1)
      have HI1 := Aside0.mk (builder_below HI.out hb1)
      have HP := Aside0.mk (Ch.foldL_piece (l := L l))
      have HPL := Aside0.mk (show Ch.pieceL 75 (L l) ≤ l.size by rw [size_L]; exact Ch.pieceL_le _ _)
      obtain ⟨q, hq⟩ : ∃ q, Ch.pieceL 75 (L l) = q := ⟨_, rfl⟩
      rw [hq] at HP HPL
      rw [hq]
      have HQL := Aside0.mk (show (l.extract 0 q).size = q by rw [size_L, L_from, List.length_take, ← size_L]; have := HPL.out; omega)
      have HPR := Aside0.mk (show L (l.extract 0 q) = (L l).take q from L_from _ _)
      obtain ⟨p, hp⟩ : ∃ p, l.extract 0 q = p := ⟨_, rfl⟩
      rw [hp] at HQL HPR
      rw [hp]
      clear hq hp hb1 HB HI
      go_wp2_with (fail)
      refine (write_calls _ _ _ _ _ HI1.out (by have h1 := HT.out; rw [HS.out, HP.out] at h1; rw [HPR.out]; simp only [List.length_append] at h1 ⊢; omega) HB1.out.size).mono ?_
      rintro e w2 ⟨rfl, hi2, hb2⟩
      have HB2 := Aside0.mk (HB1.out.trans hb2)
      have HI2 := Aside0.mk hi2
      clear hi2 hb2 HB1 HI1
      have hpq : (p.size : Int) ≤ (l.size : Int) := by have := HQL.out; have := HPL.out; omega
      go_wp2_with (fail)
      have HL1 := Aside0.mk (show L (l.extract p.size l.size) = (L l).drop q by rw [L_to, HQL.out])
      have HL1s := Aside0.mk (show (l.extract p.size l.size).size ≤ 1073741824 by rw [size_L, L_to, List.length_drop, ← size_L]; have := HIl.out; omega)
      obtain ⟨l1, hl1⟩ : ∃ l1, l.extract p.size l.size = l1 := ⟨_, rfl⟩
      rw [hl1] at HL1 HL1s ⊢
      have HT1 := Aside0.mk (show Ch.foldAll ((l0.take i).map L) ++ L p ++ Ch.tailR (L l1) = Ch.foldAll ((l0.take (i + 1)).map L) by
        rw [HS.out, HP.out, HPR.out, HL1.out, List.append_assoc])
      obtain ⟨acc1, ha1⟩ : ∃ acc1, Ch.foldAll ((l0.take i).map L) ++ L p = acc1 := ⟨_, rfl⟩
      rw [ha1] at HT1 HI2
      clear hl1 ha1 hc hpq HP HPL HQL HPR HS HL1
      go_loopg [5, 6] l1.size (fun g2 v5 _ wx => ∃ (s : ByteArray) (acc : List UInt8), s.size = g2 ∧ v5 = .string s ∧ Aside0 (s.size ≤ 1073741824) ∧ Aside0 (acc ++ Ch.tailR (L s) = Ch.foldAll ((l0.take (i + 1)).map L)) ∧ Aside0 (Lib.IsBuilder 44 5 w.heap.size w.heap.size (Lib.byteCells acc) wx) ∧ Aside0 (Below w.heap.size w wx))
      case atStart => exact ⟨l1, acc1, rfl, rfl, HL1s, HT1, HI2, HB2⟩
      case round =>
        obtain ⟨s, acc, hsg, rfl, HSs, HTs, HIs, HBs⟩ := hrel
        clear HB2 HI2 HT1 HL1s
        have HSG := Aside0.mk hsg
        clear hsg
        by_cases h0 : s.size = 0
        · have hs0 : L s = [] := List.eq_nil_of_length_eq_zero (by rw [← size_L]; exact h0)
          have hne : s.toList = [] := by rw [By.toList_L]; exact hs0
          have hem : (!s.toList.isEmpty) = false := by rw [hne]; rfl
          have HTf := Aside0.mk (show acc ++ L ⟨#[13, 10]⟩ = Ch.foldAll ((l0.take (i + 1)).map L) by rw [← HTs.out, hs0]; rfl)
          clear h0 hs0
          go_wp2_with (fail)
          refine (write_calls _ _ _ _ _ HIs.out (by have h1 := HT.out; rw [HTf.out]; omega) HBs.out.size).mono ?_
          rintro e w3 ⟨rfl, hi3, hb3⟩
          rw [HTf.out] at hi3
          have HB3 := Aside0.mk (HBs.out.trans hb3)
          have HI3 := Aside0.mk hi3
          clear hi3 hb3
          go_wp2_with (fail)
          go_roundg g
          case measure => omega
          case rel => exact ⟨i + 1, by omega, by go_num, HI3, HB3⟩
        · have hne0 : L s ≠ [] := by intro e; apply h0; rw [size_L, e]; rfl
          have hem : (!s.toList.isEmpty) = true := by
            rw [By.toList_L]
            cases hh : L s with
            | nil => exact absurd hh hne0
            | cons _ _ => rfl
          have hem' : (s.toList = []) = False := eq_false (by rw [By.toList_L]; exact hne0)
          have HP := Aside0.mk (Ch.tailR_piece hne0)
          have HPP := Aside0.mk (Ch.pieceL_pos 74 hne0)
          clear h0 hne0
          go_wp2_with (fail)
          refine (piece_calls s 74 _ HSs.out (env_at HE.out HBs.out)).mono ?_
          rintro e w3 ⟨rfl, hb3⟩
          have HB3 := Aside0.mk (below_then HBs.out HBs.out.size hb3)
          have HI3 := Aside0.mk (builder_below HIs.out hb3)
          have HPL := Aside0.mk (show Ch.pieceL 74 (L s) ≤ s.size by rw [size_L]; exact Ch.pieceL_le _ _)
          obtain ⟨q, hq⟩ : ∃ q, Ch.pieceL 74 (L s) = q := ⟨_, rfl⟩
          rw [hq] at HP HPL HPP
          rw [hq]
          have HQL := Aside0.mk (show (s.extract 0 q).size = q by rw [size_L, L_from, List.length_take, ← size_L]; have := HPL.out; omega)
          have HPR := Aside0.mk (show L (s.extract 0 q) = (L s).take q from L_from _ _)
          obtain ⟨p, hp⟩ : ∃ p, s.extract 0 q = p := ⟨_, rfl⟩
          rw [hp] at HQL HPR
          rw [hp]
          clear hq hp hb3
          have hpz : (9223372036854775807 < 3 + p.size) = False := eq_false (by have := HQL.out; have := HPL.out; have := HSs.out; omega)
          have HTn := Aside0.mk (show (acc ++ L ((⟨#[13, 10, 32]⟩ : ByteArray) ++ p)) ++ Ch.tailR (L (s.extract p.size s.size)) = Ch.foldAll ((l0.take (i + 1)).map L) by
            rw [← HTs.out, HP.out, By.L_append, HPR.out, L_to, HQL.out]
            simp [L])
          have HSn := Aside0.mk (show (s.extract p.size s.size).size = s.size - p.size by rw [size_L, L_to, List.length_drop, ← size_L])
          go_wp2_with (fail)
          clear hpz
          refine (write_calls _ _ _ _ _ HI3.out (by have h1 := HT.out; have h2 := congrArg List.length HTn.out; rw [List.length_append] at h2; omega) HB3.out.size).mono ?_
          rintro e w4 ⟨rfl, hi4, hb4⟩
          have HB4 := Aside0.mk (HB3.out.trans hb4)
          have HI4 := Aside0.mk hi4
          clear hi4 hb4
          have hpq : (p.size : Int) ≤ (s.size : Int) := by have := HQL.out; have := HPL.out; omega
          go_wp2_with (fail)
          go_roundg (s.size - p.size)
          case measure => have := HQL.out; have := HPP.out; have := HSG.out; have := HPL.out; omega
          case rel => exact ⟨s.extract p.size s.size, _, HSn.out, rfl, ⟨by rw [HSn.out]; have := HSs.out; omega⟩, HTn, HI4, HB4⟩
end Go.Proofs.YtpjidedgifjgeaaDoor.Pf
