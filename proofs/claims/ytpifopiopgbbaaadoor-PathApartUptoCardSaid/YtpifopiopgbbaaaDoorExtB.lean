/- The contracts of char.Valid and path.upper, by hand. -/
import Derived.Shelf.Strings.FuncGrows
import Derived.Lib.AtoiErrMem
import Derived.Lib.SlBytesRow
import Derived.Test.YtpifopiopgbbaaaDoorPax1
namespace Go.Proofs.YtpifopiopgbbaaaDoor.Pa
open Go.RowKit Go.Proofs.YtpifopiopgbbaaaDoorW.PrintWords
/-- A control character that a text of this program can't hold. -/
def ctl (n : Nat) : Bool := decide (n < 32 ∧ n ≠ 9 ∧ n ≠ 10 ∧ n ≠ 13) || n == 127
theorem ctl_f (n : Nat) : char_control.f (n : Int) = some (ctl n) := by
  unfold char_control.f ctl
  by_cases h1 : n < 32
  · have g1 : ((n : Int) < 32) := by omega
    have g5 : ¬ n = 127 := by omega
    have g6 : ¬ (n : Int) = 127 := by omega
    by_cases h2 : n = 9
    · subst h2; rfl
    · by_cases h3 : n = 10
      · subst h3; rfl
      · by_cases h4 : n = 13
        · subst h4; rfl
        · have g2 : ¬ (n : Int) = 9 := by omega
          have g3 : ¬ (n : Int) = 10 := by omega
          have g4 : ¬ (n : Int) = 13 := by omega
          simp [g1, g2, g3, g4, h1, h2, h3, h4]
  · have g1 : ¬ ((n : Int) < 32) := by omega
    have e : (((n : Int) == 127) : Bool) = (n == 127) := by
      by_cases h : n = 127
      · subst h; rfl
      · have : ¬ (n : Int) = 127 := by omega
        rw [beq_eq_false_iff_ne.2 h, beq_eq_false_iff_ne.2 this]
    simp [g1, h1, e]
theorem ctl_pays (w : World) : PredGrows Tryd.prog 34 #[] ctl w := by
  intro W x _ _
  refine (char_control.calls (x : Int) (ctl x) W (ctl_f x)).mono ?_
  rintro e w' ⟨rfl, hd⟩
  exact ⟨rfl, Drawn0.below hd⟩
theorem indexFunc_calls (s : ByteArray) (w : World) :
    Calls Tryd.prog 33 #[.string s, .func (.func 34) #[] #[]] w fun e w' => e = .returned (.int .i64 (Lib.idxFunc ctl true s)) ∧ Below w.heap.size w w' :=
  Tryd.strings_IndexFunc_grows 34 #[] (enters_of Tryd.func34 (by kernel_rfl) rfl) ctl s w (ctl_pays w)
def valid (s : ByteArray) : Bool := Lib.validD s.data.toList && decide (Lib.idxFunc ctl true s < 0)
theorem valid_calls (s : ByteArray) (w : World) (hs : s.size ≤ 9223372036854775807) (hE : Env w) :
    Calls Tryd.prog 25 #[.string s] w fun e w' => e = .returned (.bool (valid s)) ∧ Below w.heap.size w w' := by
  have HE := Aside0.mk hE
  clear hE
  by_cases hv : Lib.validD s.data.toList = true
  · have hr : valid s = decide (Lib.idxFunc ctl true s < 0) := by unfold valid; rw [hv]; rfl
    rw [hr]
    go_enter Tryd.func25, Tryd.ntmps25
    go_wp2_with (go_at_call 32; refine (Tryd.utf8_ValidString s _ hs HE.out.tabs).mono ?_; rintro e w1 ⟨rfl, hb1⟩; rw [hv])
    refine (indexFunc_calls s w1).mono ?_
    rintro e w2 ⟨rfl, hb2⟩
    have HB := Aside0.mk (below_then hb1 hb1.size hb2)
    clear hb1 hb2
    go_wp2_with (fail)
    go_ret
    exact ⟨rfl, HB.out⟩
  · have hv' : Lib.validD s.data.toList = false := by simpa using hv
    have hr : valid s = false := by unfold valid; rw [hv']; rfl
    rw [hr]
    go_enter Tryd.func25, Tryd.ntmps25
    go_wp2_with (go_at_call 32; refine (Tryd.utf8_ValidString s _ hs HE.out.tabs).mono ?_; rintro e w1 ⟨rfl, hb1⟩; rw [hv'])
    go_ret
    exact ⟨rfl, hb1⟩
def up (c : UInt8) : UInt8 := if 97 ≤ c ∧ c ≤ 122 then c ^^^ 32 else c
theorem bytesWorld_soft (w : World) (c : UInt8) : (Lib.bytesWorld w 5 ⟨#[c]⟩).frozen? ⟨w.heap.size, 0, none⟩ = false := by
  simp [World.frozen?, Lib.bytesWorld_at_new, Lib.bytesCells]
set_option maxRecDepth 100000 in
theorem up_yes {c : UInt8} (h1 : 97 ≤ (c.toNat : Int)) (h2 : (c.toNat : Int) ≤ 122) : bits .xor .u8 (c.toNat : Int) 32 = ((up c).toNat : Int) := by
  have key : ∀ X : Fin 256, bits .xor .u8 ((X.val : Nat) : Int) 32 = (((UInt8.ofNat X.val) ^^^ 32).toNat : Int) := by decide
  have h := key ⟨c.toNat, c.toNat_lt⟩
  simp only [UInt8.ofNat_toNat] at h
  have e : up c = c ^^^ 32 := by
    unfold up
    rw [if_pos]
    constructor <;> (rw [UInt8.le_iff_toNat_le]; simp; omega)
  rw [h, e]
theorem up_no {c : UInt8} (h : ¬ (97 ≤ (c.toNat : Int) ∧ (c.toNat : Int) ≤ 122)) : up c = c := by
  unfold up
  rw [if_neg]
  rw [UInt8.le_iff_toNat_le, UInt8.le_iff_toNat_le]
  simp
  omega
theorem turned_one (c : UInt8) (w : World) : 
    Calls Tryd.prog 48 #[.string ⟨#[c]⟩, .int .u8 97, .int .u8 122] w fun e w' => e = .returned (.string ⟨#[up c]⟩) ∧ Below w.heap.size w w' := by
  go_enter Tryd.func48, Tryd.ntmps48
  go_wp2_with (fail)
  rw [Lib.run_convert_string_bytes (P := Tryd.prog) w 9 41 5 ⟨#[c]⟩ Tryd.underlying9 Tryd.underlying41 Tryd.underlying5]
  have HB := Aside0.mk (Lib.bytesWorld_below w 5 ⟨#[c]⟩)
  have hc := Lib.bytesWorld_cell w 5 ⟨#[c]⟩ 0 Nat.one_pos
  have hf := bytesWorld_soft w c
  obtain ⟨b, hb⟩ : ∃ b, w.heap.size = b := ⟨_, rfl⟩
  obtain ⟨W, hW⟩ : ∃ W, Lib.bytesWorld w 5 ⟨#[c]⟩ = W := ⟨_, rfl⟩
  obtain ⟨cap, hcap⟩ : ∃ cap, grownCap w (⟨#[c]⟩ : ByteArray).size 0 5 = cap := ⟨_, rfl⟩
  rw [hW] at HB hc hf ⊢
  rw [hcap]
  rw [hb] at hc hf HB ⊢
  have HC := Aside0.mk (show W.cell? ⟨b, 0, none⟩ = some (.int .u8 c.toNat) from hc)
  have HF := Aside0.mk hf
  clear hc hf hW hcap
  show Oper.upon _ _ _ _ _ (Result.ok (Next.value (.slice (some ⟨b, 0, none⟩) 1 cap)) W)
  go_wp2_with (fail)
  go_loopg [8, 9, 14] 1 (fun g _ _ v14 wx => ∃ (x : UInt8), ((g = 1 ∧ v14 = .int .i64 0 ∧ Aside0 (x = c) ∧ Aside0 (wx.frozen? ⟨b, 0, none⟩ = false)) ∨ (g = 0 ∧ v14 = .int .i64 1 ∧ Aside0 (x = up c))) ∧ Aside0 (wx.cell? ⟨b, 0, none⟩ = some (.int .u8 x.toNat)) ∧ Aside0 (Below b w wx))
  case atStart => exact ⟨c, .inl ⟨rfl, rfl, ⟨rfl⟩, HF⟩, HC, HB⟩
  case round =>
    clear HC HB HF
    obtain ⟨x, hx, HC, HB⟩ := hrel
    rcases hx with ⟨rfl, rfl, HX, HF⟩ | ⟨rfl, rfl, HX⟩
    · have h1 := HC.out
      rw [HX.out] at h1
      by_cases c1 : 97 ≤ (c.toNat : Int)
      · by_cases c2 : (c.toNat : Int) ≤ 122
        · have d1 := decide_eq_true c1
          have d2 := decide_eq_true c2
          have hf := HF.out
          have HU := Aside0.mk (up_yes c1 c2)
          clear c1 c2
          go_wp2_with (fail)
          go_roundg 0
          case measure => omega
          case rel => exact ⟨up c, .inr ⟨rfl, rfl, ⟨rfl⟩⟩, ⟨by rw [HU.out]; exact World.cell?_setCell_same _ _ _ h1⟩, ⟨HB.out.setCell (Nat.le_refl _) _⟩⟩
        · have HU := Aside0.mk (up_no (c := c) (fun h => c2 h.2))
          have d1 := decide_eq_true c1
          have d2 := decide_eq_false c2
          clear c1 c2
          go_wp2_with (fail)
          go_roundg 0
          case measure => omega
          case rel => exact ⟨c, .inr ⟨rfl, rfl, ⟨HU.out.symm⟩⟩, ⟨h1⟩, HB⟩
      · have HU := Aside0.mk (up_no (c := c) (fun h => c1 h.1))
        have d1 := decide_eq_false c1
        clear c1
        go_wp2_with (fail)
        go_roundg 0
        case measure => omega
        case rel => exact ⟨c, .inr ⟨rfl, rfl, ⟨HU.out.symm⟩⟩, ⟨h1⟩, HB⟩
    · go_wp2_with (fail)
      have h2 : (convert 41 9 (.slice (some ⟨b, 0, none⟩) 1 cap)).run Tryd.prog wr = .ok (.string ⟨#[up c]⟩) wr := Lib.run_convert_whole wr 41 5 9 Tryd.underlying41 Tryd.underlying5 Tryd.underlying9 b 0 ⟨#[up c]⟩ (by
        intro i hi
        have hi0 : i = 0 := by have : (⟨#[up c]⟩ : ByteArray).size = 1 := rfl; omega
        subst hi0
        have := HC.out
        rw [HX.out] at this
        exact this) cap
      rw [h2]
      show Oper.upon _ _ _ _ _ (Result.ok (Next.value (.string ⟨#[up c]⟩)) wr)
      go_wp2_with (fail)
      go_ret
      exact ⟨rfl, by rw [hb]; exact HB.out⟩
theorem upperS (c : UInt8) (w : World) :
    Calls Tryd.prog 40 #[.string ⟨#[c]⟩] w fun e w' => e = .returned (.string ⟨#[up c]⟩) ∧ Below w.heap.size w w' := by
  go_enter Tryd.func40, Tryd.ntmps40
  go_wp2_with (go_at_call 48; refine (turned_one c w).mono ?_; rintro e w1 ⟨rfl, hb1⟩)
  go_ret
  exact ⟨rfl, hb1⟩
theorem upper_one (c : UInt8) (w : World) : 
    Calls Tryd.prog 30 #[.int .u8 c.toNat] w fun e w' => e = .returned (.int .u8 (up c).toNat) ∧ Below w.heap.size w w' := by
  go_enter Tryd.func30, Tryd.ntmps30
  go_wp2_with (fail)
  have h1 : (w.alloc (Obj.cells #[Value.int IntKind.u8 (c.toNat : Int)] 5)).cell? ⟨w.heap.size, 0, none⟩ = some (.int .u8 (c.toNat : Int)) := by
    rw [World.cell?_alloc_at _ _ _ _ rfl]; rfl
  have hB := (Below.refl w.heap.size w).alloc (Nat.le_refl _) (Obj.cells #[Value.int IntKind.u8 (c.toNat : Int)] 5)
  obtain ⟨W, hW⟩ : ∃ W, w.alloc (Obj.cells #[Value.int IntKind.u8 (c.toNat : Int)] 5) = W := ⟨_, rfl⟩
  rw [hW] at h1 hB ⊢
  have h2 : (convert 41 9 (.slice (some ⟨w.heap.size, 0, none⟩) 1 1)).run Tryd.prog W = .ok (.string ⟨#[c]⟩) W := Lib.run_convert_whole W 41 5 9 Tryd.underlying41 Tryd.underlying5 Tryd.underlying9 w.heap.size 0 ⟨#[c]⟩ (by
    intro i hi
    have hi0 : i = 0 := by have : (⟨#[c]⟩ : ByteArray).size = 1 := rfl; omega
    subst hi0
    exact h1) 1
  rw [h2]
  have HB := Aside0.mk hB
  clear hB h1 h2 hW
  show Oper.upon _ _ _ _ _ (Result.ok (Next.value (.string ⟨#[c]⟩)) W)
  go_wp2_with (go_at_call 40; refine (upperS c W).mono ?_; rintro e w1 ⟨rfl, hb1⟩)
  have HB1 := Aside0.mk (below_then HB.out HB.out.size hb1)
  clear hb1
  go_ret
  exact ⟨rfl, HB1.out⟩
end Go.Proofs.YtpifopiopgbbaaaDoor.Pa
namespace Go.Proofs.YtpifopiopgbbaaaDoor.Pb
open Go.RowKit Go.Proofs.YtpifopiopgbbaaaDoorW.PrintWords
abbrev Env := Pa.Env
theorem env_at {w W : World} (h : Env w) (hb : Below w.heap.size w W) : Env W := Pa.env_at h hb
def char_Valid.f (a0 : ByteArray) : Option Bool := if a0.size ≤ 9223372036854775807 then some (Pa.valid a0) else none
theorem char_Valid.calls (a0 : ByteArray) (r : Bool) (w : World) (hE : Env w) (h : char_Valid.f a0 = some r) :
    Calls Tryd.prog 25 #[.string a0] w fun e w' => e = .returned (.bool r) ∧ Below w.heap.size w w' := by
  unfold char_Valid.f at h
  split at h
  · rename_i hs
    simp only [Option.some.injEq] at h
    subst h
    exact Pa.valid_calls a0 w hs hE
  · cases h
end Go.Proofs.YtpifopiopgbbaaaDoor.Pb
