/- strings.ContainsAny at CR, LF, for every text shorter than 4294967281 bytes (the library walked: strings.IndexRune, IndexAny). -/
import Derived.Test.YtpjidedgifjgeaaDoorExt
import Derived.Laws.RangeAny
import Derived.Lib.OthersKept
import Derived.WalkLawsBesides
import Derived.Deep.LoopGhost
import Derived.Deep.QuietTactic
import Derived.BigQuiet
import Derived.WalkMore
import Derived.Test.YtpjidedgifjgeaaDoorChars
namespace Go.Proofs.YtpjidedgifjgeaaDoor.Pf
open Go.RowKit Go.Proofs.YtpjidedgifjgeaaDoorW.PrintWords

set_option maxHeartbeats 1000000 in
set_option maxRecDepth 100000 in
theorem indexRune_err (w : World) :
    Calls Tryd.prog 34 #[.string ⟨#[13, 10]⟩, .int .i32 65533] w fun e w' => e = .returned (.int .i64 (-1)) ∧ Below w.heap.size w w' := by
  go_enter Tryd.func34, Tryd.ntmps34

  go_wp2_with (fail)
  go_loopg [5, 6] 2 (fun g _ _ wx => ∃ i : Nat, i + g = 2 ∧ wx = w.iter ⟨#[13, 10]⟩ i)
  case atStart => exact ⟨0, by omega, rfl⟩
  case round =>
    obtain ⟨i, hig, rfl⟩ := hrel
    cases gk with
    | zero =>
      obtain rfl : i = 2 := by omega
      have hnx := fun ty => run_next_end (P := Tryd.prog) w ⟨#[13, 10]⟩ 2 ty (by decide)
      go_wp2
      go_ret
      exact ⟨rfl, by exact (Below.refl _ _).alloc (Nat.le_refl _) _⟩
    | succ g =>
      have hi : i < (⟨#[13, 10]⟩ : ByteArray).size := by show i < 2; omega
      have h12 : i = 0 ∨ i = 1 := by omega
      rcases h12 with rfl | rfl
      · have hnx := fun ty => run_next_ascii (P := Tryd.prog) w ⟨#[13, 10]⟩ 0 ty hi (by show (13 : UInt8).toNat < 128; decide)
        go_wp2
        go_roundg 1
        case measure => omega
        case rel => exact ⟨1, by omega, rfl⟩
      · have hnx := fun ty => run_next_ascii (P := Tryd.prog) w ⟨#[13, 10]⟩ 1 ty hi (by show (10 : UInt8).toNat < 128; decide)
        go_wp2
        go_roundg 0
        case measure => omega
        case rel => exact ⟨2, by omega, rfl⟩
theorem quiet_add_same {P : Program} {f : FuncId} {args : Array Value} {w : World} {a n : Nat} {v : Value}
    (h : Calls P f args (w.drewN (a + n)) fun e w' => e = .returned v ∧ w' = w.drewN (a + n)) :
    Calls P f args (w.drewN (a + n)) fun e w'' => e = .returned v ∧ ∃ m, w'' = w.drewN (a + m) :=
  h.mono fun _ _ ⟨he, hm⟩ => ⟨he, n, hm⟩
theorem encode_cases (r : Int) (h0 : 128 ≤ r) :
    (∃ b0 b1 : UInt8, 128 ≤ b1.toNat ∧ Utf8.encode r = ⟨#[b0, b1]⟩) ∨ (∃ b0 b1 b2 : UInt8, Utf8.encode r = ⟨#[b0, b1, b2]⟩) ∨ ∃ b0 b1 b2 b3 : UInt8, Utf8.encode r = ⟨#[b0, b1, b2, b3]⟩ := by
  unfold Utf8.encode
  have hc : 128 ≤ (if Utf8.valid r then r.toNat else Utf8.runeError) := by
    split
    · omega
    · decide
  generalize (if Utf8.valid r then r.toNat else Utf8.runeError) = c at hc
  simp only
  rw [if_neg (by omega)]
  split
  · refine .inl ⟨_, _, ?_, rfl⟩
    rw [UInt8.toNat_ofNat']; omega
  · split
    · exact .inr (.inl ⟨_, _, _, rfl⟩)
    · exact .inr (.inr ⟨_, _, _, _, rfl⟩)
set_option maxHeartbeats 1000000 in
set_option maxRecDepth 100000 in
theorem indexRune_big (r : Int) (w : World) (h0 : 128 ≤ r) (h1 : r ≤ 1114111) (h2 : r ≠ 65533) (h3 : Lib.validRune r = true) :
    Calls Tryd.prog 34 #[.string ⟨#[13, 10]⟩, .int .i32 r] w fun e w' => e = .returned (.int .i64 (-1)) ∧ Below w.heap.size w w' := by
  have hr : (r == 65533) = false := beq_eq_false_iff_ne.2 h2
  rcases encode_cases r h0 with ⟨b0, b1, hb, he⟩ | ⟨b0, b1, b2, he⟩ | ⟨b0, b1, b2, b3, he⟩
  · have hne : ((((⟨#[13, 10]⟩ : ByteArray)[1]'(by decide)).toNat : Int) != (((⟨#[b0, b1]⟩ : ByteArray)[1]'(by show 1 < 2; decide)).toNat : Int)) = true := by
      show ((10 : Int) != (b1.toNat : Int)) = true
      rw [bne_iff_ne]; omega
    have hq : Lib.indexByte [] b1 = -1 := rfl
    have hb1 : ((b1.toNat : Int)).toNat.toUInt8 = b1 := by simp
    go_enter Tryd.func34, Tryd.ntmps34
    go_wp2_with (go_at_call 43; refine (Tryd.utf8_ValidRune r _).mono ?_; rintro e w' ⟨rfl, rfl⟩)
    go_step3
    go_wp2_with (fail)
    refine wp_loop_rounds 1 ?_
    rw [rounds_succ]
    go_wp2_with (fail)
    go_step3
    go_wp2_with (fail)
    go_quiet (fail)
    go_wp2_with (fail)
    go_quiet ((go_at_call 42; exact quiet_add_same (Tryd.strings_IndexByte _ _ _)))
    go_wp2_with (fail)
    rw [Exit.noGoto_ret]
    go_wp2_with (fail)
    rw [Exit.noGoto_ret]
    go_ret
    exact ⟨rfl, pw_below_drewN (Below.refl _ _) _⟩
  all_goals
    go_enter Tryd.func34, Tryd.ntmps34
    go_wp2_with (go_at_call 43; refine (Tryd.utf8_ValidRune r _).mono ?_; rintro e w' ⟨rfl, rfl⟩)
    go_step3
    go_wp2_with (fail)
    refine wp_loop_rounds 1 ?_
    rw [rounds_succ]
    go_wp2_with (fail)
    rw [Exit.noGoto_ret]
    go_ret
    exact ⟨rfl, Below.refl _ _⟩
theorem decode_range (s : ByteArray) (i : Nat) : (Utf8.decode s i).1 = 65533 ∨ ((Utf8.decode s i).1 < 128 ∧ (Utf8.decode s i).1 = (s.get! i).toNat ∧ (Utf8.decode s i).2 = 1) ∨ (128 ≤ (Utf8.decode s i).1 ∧ Lib.validRune (Utf8.decode s i).1 = true ∧ (Utf8.decode s i).1 ≤ 1114111 ∧ 128 ≤ (s.get! i).toNat) := by
  rw [Lib.decode_at]
  have h0 := UInt8.toNat_lt (s.get! i)
  have h1 := UInt8.toNat_lt (s.get! (i + 1))
  have h2 := UInt8.toNat_lt (s.get! (i + 2))
  have h3 := UInt8.toNat_lt (s.get! (i + 3))
  generalize (s.get! i).toNat = b0 at *
  generalize (s.get! (i + 1)).toNat = b1 at *
  generalize (s.get! (i + 2)).toNat = b2 at *
  generalize (s.get! (i + 3)).toNat = b3 at *
  unfold Lib.decodeN Lib.validRune
  repeat' split
  all_goals simp only [decide_eq_true_eq, and_true]
  all_goals omega
/-- A step of the decoder passes over continuation bytes alone: none of them is a byte below 128. -/
theorem decode_skips (s : ByteArray) (i : Nat) (hi : i < s.size) (j : Nat) (h1 : i < j) (h2 : j < i + (Utf8.decode s i).2) : j < s.size ∧ 128 ≤ (s.get! j).toNat := by
  rw [Lib.decode_at] at h2
  have e : j = i + 1 ∨ j = i + 2 ∨ j = i + 3 ∨ i + 4 ≤ j := by omega
  have g0 := UInt8.toNat_lt (s.get! i)
  unfold Lib.decodeN at h2
  rcases e with rfl | rfl | rfl | e
  all_goals
    generalize (s.get! i).toNat = b0 at *
    generalize (s.get! (i + 1)).toNat = b1 at *
    generalize (s.get! (i + 2)).toNat = b2 at *
    generalize (s.get! (i + 3)).toNat = b3 at *
    repeat' split at h2
    all_goals (simp only at h2; omega)
/-- strings.IndexRune at CR, LF and a rune as the decoder hands it out. -/
theorem indexRune_any (r : Int) (w : World) (h : r = 65533 ∨ (0 ≤ r ∧ r < 128) ∨ (128 ≤ r ∧ r ≤ 1114111 ∧ Lib.validRune r = true)) :
    Calls Tryd.prog 34 #[.string ⟨#[13, 10]⟩, .int .i32 r] w fun e w' => e = .returned (.int .i64 (if r = 13 then 0 else if r = 10 then 1 else -1)) ∧ Below w.heap.size w w' := by
  rcases h with rfl | ⟨h0, h1⟩ | ⟨h0, h1, h2⟩
  · exact indexRune_err w
  · refine (Tryd.strings_IndexRune_ascii ⟨#[13, 10]⟩ r w h0 h1).mono ?_
    rintro e w' ⟨rfl, rfl⟩
    refine ⟨?_, Below.refl _ _⟩
    congr 2
    obtain ⟨n, rfl⟩ := Int.eq_ofNat_of_zero_le h0
    have hn : n < 128 := by omega
    have key : ∀ n : Fin 128, Lib.indexByte [13, 10] (n.val.toUInt8) = (if n.val = 13 then 0 else if n.val = 10 then 1 else -1) := by decide
    have := key ⟨n, hn⟩
    simp only [Int.toNat_natCast]
    show Lib.indexByte [13, 10] n.toUInt8 = _
    rw [this]
    simp only
    have e1 : ((n : Int) = 13) = (n = 13) := propext ⟨fun h => by omega, fun h => by omega⟩
    have e2 : ((n : Int) = 10) = (n = 10) := propext ⟨fun h => by omega, fun h => by omega⟩
    simp only [e1, e2]
  · by_cases hr : r = 65533
    · subst hr; exact indexRune_err w
    · rw [if_neg (by omega), if_neg (by omega)]
      exact indexRune_big r w h0 h1 hr h2

set_option maxHeartbeats 1000000 in
set_option maxRecDepth 100000 in
theorem indexAny_short (s : ByteArray) (w : World) (h8 : s.size ≤ 8) :
    Calls Tryd.prog 29 #[.string s, .string ⟨#[13, 10]⟩] w fun e w' => e = .returned (.int .i64 (Lib.indexAny s.data.toList [13, 10])) ∧ Below w.heap.size w w' := by
  have h8z : decide ((8 : Int) < (s.size : Int)) = false := decide_eq_false (by omega)
  go_enter Tryd.func29, Tryd.ntmps29
  go_wp2_with (go_at_call 35; refine (Tryd.strings_shouldUseASCIISet _ _).mono ?_; rintro e w' ⟨rfl, hw⟩; rw [hw, h8z])
  go_loopg [9, 10] s.size (fun g _ _ wx => ∃ i : Nat, i + g = s.size ∧ wx.heap[w.heap.size]? = some (.stringIter s i) ∧ Below w.heap.size w wx ∧ Lib.NoAny s.data.toList [13, 10] i)
  case atStart => exact ⟨0, by omega, World.iter_heap w s 0, (Below.refl _ _).alloc (Nat.le_refl _) _, Lib.NoAny.zero _ _⟩
  case round =>
    obtain ⟨i, hig, hk, hb, hno⟩ := hrel
    have HN := Aside0.mk hno
    have HK := Aside0.mk hk
    have HB := Aside0.mk hb
    have hsz := Aside0.mk hb.size
    clear hno hk hb
    cases gk with
    | zero =>
      obtain rfl : i = s.size := by omega
      have hnx := fun ty => Lib.run_next_end_at (P := Tryd.prog) wr w.heap.size s s.size ty HK.out (by omega)
      go_wp2
      go_ret
      exact ⟨by rw [Lib.indexAny_none (by rw [← Lib.size_eq]; exact HN.out)]; rfl, HB.out⟩
    | succ g =>
      have hi : i < s.size := by omega
      obtain ⟨x, hx⟩ : ∃ x : UInt8, s[i]'hi = x := ⟨_, rfl⟩
      have hxg : s.get! i = x := by rw [← hx]; exact Utf8W.get!_of_lt s i hi
      have hxl := Aside0.mk (show s.data.toList[i]? = some x by rw [← hx]; exact Lib.data_getElem? s i hi)
      by_cases ha : x.toNat < 128
      · have hnx := fun ty => Lib.run_next_ascii_at (P := Tryd.prog) wr w.heap.size s i ty HK.out hi (by rw [hx]; exact ha)
        rw [hx] at hnx
        have hW1 := Aside0.mk (Lib.iterAt_heap wr w.heap.size s i (i + 1) HK.out)
        have hB1 := Aside0.mk (Lib.below_iterAt HB.out (Nat.le_refl _) s (i + 1))
        obtain ⟨W1, hW⟩ : ∃ W1, wr.iterAt w.heap.size s (i + 1) = W1 := ⟨_, rfl⟩
        rw [hW] at hnx hW1 hB1
        clear hW HK HB hsz
        have hlt := Aside0.mk (Array.getElem?_eq_some_iff.1 hW1.out).1
        by_cases h13 : x = 13
        · subst h13
          have c := indexRune_any 13 W1 (by omega)
          rw [if_pos rfl] at c
          go_wp2_with (go_at_call 34; refine c.mono ?_; rintro e w' ⟨rfl, hb⟩)
          go_ret
          exact ⟨by rw [Lib.indexAny_hit HN.out hxl.out (by decide)]; rfl, hB1.out.trans (hb.mono (by have := hB1.out.size; omega))⟩
        · by_cases h10 : x = 10
          · subst h10
            have c := indexRune_any 10 W1 (by omega)
            rw [if_neg (by decide), if_pos rfl] at c
            go_wp2_with (go_at_call 34; refine c.mono ?_; rintro e w' ⟨rfl, hb⟩)
            go_ret
            exact ⟨by rw [Lib.indexAny_hit HN.out hxl.out (by decide)]; rfl, hB1.out.trans (hb.mono (by have := hB1.out.size; omega))⟩
          · have c := indexRune_any (x.toNat : Int) W1 (by omega)
            have e13 : x.toNat ≠ 13 := fun h => h13 (UInt8.toNat_inj.1 h)
            have e10 : x.toNat ≠ 10 := fun h => h10 (UInt8.toNat_inj.1 h)
            rw [if_neg (by omega), if_neg (by omega)] at c
            clear e13 e10
            go_wp2_with (go_at_call 34; refine c.mono ?_; rintro e w' ⟨rfl, hb⟩)
            go_roundg g
            case measure => omega
            case rel => exact ⟨i + 1, by omega, (hb.block _ hlt.out).trans hW1.out, hB1.out.trans (hb.mono (by have := hB1.out.size; omega)), HN.out.succ hxl.out (by simp [h13, h10])⟩
      · have hnx := fun ty => Lib.run_next_any_at (P := Tryd.prog) wr w.heap.size s i ty HK.out hi
        have hr := decode_range s i
        have hsk := decode_skips s i hi
        have hz1 : 1 ≤ (Utf8.decode s i).2 ∧ i + (Utf8.decode s i).2 ≤ s.size := by
          rw [Lib.decode_at]
          have := Ch.decodeN_len (s.size - i) (s.get! i).toNat (s.get! (i + 1)).toNat (s.get! (i + 2)).toNat (s.get! (i + 3)).toNat (by omega)
          omega
        rw [hxg] at hr
        generalize (Utf8.decode s i).1 = r at hnx hr
        generalize (Utf8.decode s i).2 = z at hnx hr hsk hz1
        have hW1 := Aside0.mk (Lib.iterAt_heap wr w.heap.size s i (i + z) HK.out)
        have hB1 := Aside0.mk (Lib.below_iterAt HB.out (Nat.le_refl _) s (i + z))
        obtain ⟨W1, hW⟩ : ∃ W1, wr.iterAt w.heap.size s (i + z) = W1 := ⟨_, rfl⟩
        rw [hW] at hnx hW1 hB1
        have hno' : Lib.NoAny s.data.toList [13, 10] (i + z) := by
          intro j b hj hb
          by_cases hji : j < i
          · exact HN.out j b hji hb
          · have hb128 : 128 ≤ b.toNat := by
              by_cases e : j = i
              · subst e
                have := hxl.out.symm.trans hb
                injection this with this
                subst this
                omega
              · obtain ⟨q1, q2⟩ := hsk j (by omega) hj
                have : s.data.toList[j]? = some (s.get! j) := by rw [Utf8W.get!_of_lt s j q1]; exact Lib.data_getElem? s j q1
                rw [this] at hb
                injection hb with hb
                subst hb
                exact q2
            have e13 : b ≠ 13 := by rintro rfl; revert hb128; decide
            have e10 : b ≠ 10 := by rintro rfl; revert hb128; decide
            simp [e13, e10]
        have hN1 := Aside0.mk hno'
        clear hW HK HB hsz hno' hsk HN hxl
        have hlt := Aside0.mk (Array.getElem?_eq_some_iff.1 hW1.out).1
        have c := indexRune_any (r : Int) W1 (by
          rcases hr with h | ⟨h, h', _⟩ | ⟨h1, h2, h3, _⟩
          · exact .inl (by omega)
          · omega
          · exact .inr (.inr ⟨by omega, by omega, h2⟩))
        rw [if_neg (by rcases hr with h | ⟨h, h', _⟩ | ⟨h1, h2, h3, _⟩ <;> omega), if_neg (by rcases hr with h | ⟨h, h', _⟩ | ⟨h1, h2, h3, _⟩ <;> omega)] at c
        clear hr hx hxg
        obtain ⟨hz1, hz2⟩ := hz1
        go_wp2_with (go_at_call 34; refine c.mono ?_; rintro e w' ⟨rfl, hb⟩)
        go_roundg (s.size - (i + z))
        case measure => omega
        case rel => exact ⟨i + z, by omega, (hb.block _ hlt.out).trans hW1.out, hB1.out.trans (hb.mono (by have := hB1.out.size; omega)), hN1.out⟩
theorem zero62 (w : World) : (zeroValue 62).run Tryd.prog w = .ok (.agg (Array.replicate 256 (.bool false))) w := by kernel_rfl
theorem crlf_ascii : ∀ (j : Nat) b, (⟨#[13, 10]⟩ : ByteArray).data.toList[j]? = some b → b.toNat < 128 := by
  intro j b h
  have h' : [(13 : UInt8), 10][j]? = some b := h
  have := List.mem_of_getElem? h'
  simp at this
  rcases this with rfl | rfl <;> decide
/-- strings.IndexAny at CR, LF: every text shorter than 4294967281 bytes. -/
theorem indexAny_crlf (s : ByteArray) (w : World) (hs : s.size < 4294967281) :
    Calls Tryd.prog 29 #[.string s, .string ⟨#[13, 10]⟩] w fun e w' => e = .returned (.int .i64 (Lib.indexAny s.data.toList [13, 10])) ∧ Below w.heap.size w w' := by
  by_cases h8 : s.size ≤ 8
  · exact indexAny_short s w h8
  · refine (Tryd.strings_IndexAny_long zero62 s ⟨#[13, 10]⟩ w (by decide) (by omega) hs (by decide) crlf_ascii).mono ?_
    rintro e w' ⟨rfl, rfl⟩
    exact ⟨rfl, ((Below.refl _ _).alloc (Nat.le_refl _) _).alloc (by simp) _⟩

def strings_ContainsAny.f (a0 a1 : ByteArray) : Option Bool :=
  if a0.size < 4294967281 ∧ a1 = ⟨#[13, 10]⟩ then some (Lib.containsAny a0.data.toList [13, 10]) else none
set_option maxRecDepth 100000 in
theorem strings_ContainsAny.calls (a0 a1 : ByteArray) (r : Bool) (w : World) (_hE : Env w) (h : strings_ContainsAny.f a0 a1 = some r) :
    Calls Tryd.prog 23 #[.string a0, .string a1] w fun e w' => e = .returned (.bool r) ∧ Below w.heap.size w w' := by
  unfold strings_ContainsAny.f at h
  split at h
  · rename_i hs
    obtain ⟨hs, rfl⟩ := hs
    simp only [Option.some.injEq] at h
    have Hr := Aside0.mk h
    clear h _hE
    have c := indexAny_crlf a0 w hs
    go_enter Tryd.func23, Tryd.ntmps23
    go_wp2_with (go_at_call 29; refine c.mono ?_; rintro e w' ⟨rfl, hw⟩)
    go_ret
    exact ⟨by rw [← Hr.out]; rfl, hw⟩
  · cases h
end Go.Proofs.YtpjidedgifjgeaaDoor.Pf
