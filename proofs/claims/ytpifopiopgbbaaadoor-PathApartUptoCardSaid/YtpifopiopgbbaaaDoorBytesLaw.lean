/- calepinlaw06.PathBytes, plain: what the printed law comes to is true. -/
import Derived.Test.YtpifopiopgbbaaaDoorFirst
import Derived.Test.YtpifopiopgbbaaaDoorPfx6
namespace Go.Proofs.YtpifopiopgbbaaaDoor.Pf
open Go.RowKit Go.Proofs.YtpifopiopgbbaaaDoorW.PrintWords Pc
open By (L size_L L_mk mk_L L_inj L_extract L_to L_from wrap_in)
set_option linter.unusedSimpArgs false

theorem tdiv16 (c : UInt8) : Int.tdiv (c.toNat : Int) 16 % 256 = ((c.toNat / 16 : Nat) : Int) := by
  have := c.toNat_lt
  rw [Int.tdiv_eq_ediv_of_nonneg (by omega)]
  omega
theorem tmod16 (c : UInt8) : Int.tmod (c.toNat : Int) 16 = ((c.toNat % 16 : Nat) : Int) := by
  rw [Int.tmod_eq_emod_of_nonneg (by omega)]
  omega
theorem div_up (c : UInt8) : (((c.toNat / 16 : Nat) : Int) + 1) % 256 = ((c.toNat / 16 + 1 : Nat) : Int) := by
  have := c.toNat_lt
  omega
theorem mod_up (c : UInt8) : (((c.toNat % 16 : Nat) : Int) + 1) % 256 = ((c.toNat % 16 + 1 : Nat) : Int) := by
  omega
theorem extract_one (h : Bs) (n : Nat) (hn : n < h.length) : (⟨h.toArray⟩ : ByteArray).extract n (n + 1) = ⟨([h.getD n 0] : Bs).toArray⟩ := eq_of_L (by
  rw [L_extract, L_mk, Nat.add_sub_cancel_left, List.drop_eq_getElem_cons hn, List.getD_eq_getElem?_getD, List.getElem?_eq_getElem hn]
  rfl)
theorem fits_size (s : ByteArray) (hs : s.size ≤ 9223372036854775807) (h : fitsB s = true) : 0 < s.size ∧ s.size < 65 := by
  rw [fitsB_eq s hs] at h
  split at h
  · split at h
    · split at h
      · omega
      · cases h
    · cases h
  · cases h
def hU : Bs := [48, 49, 50, 51, 52, 53, 54, 55, 56, 57, 65, 66, 67, 68, 69, 70]
def hL : Bs := [48, 49, 50, 51, 52, 53, 54, 55, 56, 57, 97, 98, 99, 100, 101, 102]
def escA (h : Bs) (l : Bs) : Bs := l.flatMap fun c => [37, h.getD (c.toNat / 16) 0, h.getD (c.toNat % 16) 0]
theorem escA_snoc (h l : Bs) (c : UInt8) : escA h (l ++ [c]) = escA h l ++ [37, h.getD (c.toNat / 16) 0, h.getD (c.toNat % 16) 0] := by simp [escA]
theorem escA_length (h l : Bs) : (escA h l).length = 3 * l.length := by
  induction l with
  | nil => rfl
  | cons c l ih =>
    simp only [escA, List.flatMap_cons, List.length_append, List.length_cons, List.length_nil] at ih ⊢
    omega
/-- Sixteen digits. -/
structure Dig (h : Bs) : Prop where
  len : h.length = 16
  val : ∀ n, n < 16 → hexv (h.getD n 0) = (n : Int)
  no : (47 : UInt8) ∉ h
theorem dig_of (h : Bs) (h1 : h.length = 16) (h2 : ∀ n : Fin 16, hexv (h.getD n.val 0) = (n.val : Int)) (h3 : (47 : UInt8) ∉ h) : Dig h := ⟨h1, fun n hn => h2 ⟨n, hn⟩, h3⟩
theorem dig_U : Dig hU := dig_of hU rfl (of_decide_eq_true (by kernel_rfl)) (by decide)
theorem dig_L : Dig hL := dig_of hL rfl (of_decide_eq_true (by kernel_rfl)) (by decide)
theorem hexb_dig {h : Bs} (hd : Dig h) (c : UInt8) : hexb (h.getD (c.toNat / 16) 0) (h.getD (c.toNat % 16) 0) = c ∧ ¬ (hexv (h.getD (c.toNat / 16) 0) < 0 ∨ hexv (h.getD (c.toNat % 16) 0) < 0) := by
  have hc := c.toNat_lt
  unfold hexb
  rw [hd.val _ (by omega), hd.val _ (by omega)]
  constructor
  · simp only [Int.toNat_natCast]
    have e : 16 * (c.toNat / 16) + c.toNat % 16 = c.toNat := by omega
    rw [e, UInt8.ofNat_toNat]
  · omega
theorem textL_escA {h : Bs} (hd : Dig h) : ∀ l : Bs, textL (escA h l) = some l
  | [] => rfl
  | c :: l => by
    have e : escA h (c :: l) = 37 :: h.getD (c.toNat / 16) 0 :: h.getD (c.toNat % 16) 0 :: escA h l := by simp [escA]
    rw [e, textL_cons37, if_neg (hexb_dig hd c).2, textL_escA hd l, (hexb_dig hd c).1]
    rfl
theorem getD_mem_or (h : Bs) (n : Nat) (hn : n < h.length) : h.getD n 0 ∈ h := by
  rw [List.getD_eq_getElem?_getD, List.getElem?_eq_getElem hn]
  exact List.getElem_mem hn
theorem escA_47 {h : Bs} (hd : Dig h) (l : Bs) : (47 : UInt8) ∉ escA h l := by
  intro hm
  simp only [escA, List.mem_flatMap] at hm
  obtain ⟨c, _, hc⟩ := hm
  have := c.toNat_lt
  simp only [List.mem_cons, List.not_mem_nil, or_false] at hc
  rcases hc with hc | hc | hc
  · exact absurd hc (by decide)
  · exact hd.no (hc ▸ getD_mem_or h _ (by rw [hd.len]; omega))
  · exact hd.no (hc ▸ getD_mem_or h _ (by rw [hd.len]; omega))
theorem bytes_end {h : Bs} (hd : Dig h) (x0 : ByteArray) (hf : fitsB x0 = true) (hs : x0.size < 65) (hn : L x0 ≠ []) :
    Ev (fun k => (path_Parse.f k ((⟨(47 :: escA h (L x0)).toArray⟩ : ByteArray) ++ (⟨#[47]⟩ : ByteArray))).bind fun bt162 => (if (⟨(47 :: escA h (L x0)).toArray⟩ : ByteArray).size + (⟨(47 :: escA h (L x0)).toArray⟩ : ByteArray).size ≤ 9223372036854775807 then ((path_Parse.f k ((⟨(47 :: escA h (L x0)).toArray⟩ : ByteArray) ++ (⟨(47 :: escA h (L x0)).toArray⟩ : ByteArray))).bind fun bt165 => (if bt162.2.2 = 0 then (if bt162.1.toList = x0.toList then (if bt162.2.1.toList = ([] : List UInt8) then (if bt165.2.2 = 0 then (if bt165.1.toList = x0.toList then (some (bt165.2.1.toList == x0.toList)) else (some false)) else (some false)) else (some false)) else (some false)) else (some false))) else (none))) true := by
  have hl := escA_length h (L x0)
  rw [← size_L] at hl
  have hz : (⟨(47 :: escA h (L x0)).toArray⟩ : ByteArray).size = 3 * x0.size + 1 := by rw [size_mk, List.length_cons, hl]
  have hok : okText (escA h (L x0)) = some (L x0) := by
    unfold okText
    rw [textL_escA hd]
    show (if fitsB ⟨(L x0).toArray⟩ = true then some (L x0) else none) = _
    rw [mk_L, if_pos hf]
  have hne : escA h (L x0) ≠ [] := by
    intro e
    have := congrArg List.length e
    rw [hl, size_L, List.length_nil] at this
    exact hn (List.eq_nil_of_length_eq_zero (by omega))
  have h47 := escA_47 hd (L x0)
  have s1 : parseS (L ((⟨(47 :: escA h (L x0)).toArray⟩ : ByteArray) ++ (⟨#[47]⟩ : ByteArray))) = some (L x0, []) := by
    have e : L ((⟨(47 :: escA h (L x0)).toArray⟩ : ByteArray) ++ (⟨#[47]⟩ : ByteArray)) = 47 :: (escA h (L x0) ++ 47 :: []) := by rw [By.L_append, L_mk]; rfl
    rw [e, parseS_slash _ (by simp), cutAt_yes [] h47]
    show parts _ [] = _
    unfold parts
    rw [hok]; rfl
  have s2 : parseS (L ((⟨(47 :: escA h (L x0)).toArray⟩ : ByteArray) ++ (⟨(47 :: escA h (L x0)).toArray⟩ : ByteArray))) = some (L x0, L x0) := by
    have e : L ((⟨(47 :: escA h (L x0)).toArray⟩ : ByteArray) ++ (⟨(47 :: escA h (L x0)).toArray⟩ : ByteArray)) = 47 :: (escA h (L x0) ++ 47 :: escA h (L x0)) := by rw [By.L_append, L_mk]; rfl
    rw [e, parseS_slash _ (by simp), cutAt_yes _ h47]
    show parts _ _ = _
    unfold parts
    rw [hok]
    simp only [hne, if_false]
  have p1 := parse_any ((⟨(47 :: escA h (L x0)).toArray⟩ : ByteArray) ++ (⟨#[47]⟩ : ByteArray)) (by rw [ByteArray.size_append, hz, size_lit1]; omega)
  rw [s1] at p1
  refine Ev.bind p1 ?_
  have g : (⟨(47 :: escA h (L x0)).toArray⟩ : ByteArray).size + (⟨(47 :: escA h (L x0)).toArray⟩ : ByteArray).size ≤ 9223372036854775807 := by rw [hz]; omega
  simp only [g, if_true]
  have p2 := parse_any ((⟨(47 :: escA h (L x0)).toArray⟩ : ByteArray) ++ (⟨(47 :: escA h (L x0)).toArray⟩ : ByteArray)) (by rw [ByteArray.size_append, hz]; omega)
  rw [s2] at p2
  refine Ev.bind p2 ?_
  have q1 : (⟨(L x0).toArray⟩ : ByteArray) = x0 := mk_L x0
  have q2 : (⟨([] : Bs).toArray⟩ : ByteArray).toList = [] := By.toList_L _
  simp only [pOut, q1, q2, if_true, beq_self_eq_true]
  exact Ev.now _
theorem bytes_loop {h : Bs} (hd : Dig h) (x0 : ByteArray) (hf : fitsB x0 = true) (hs : x0.size < 65) (hn : L x0 ≠ []) : ∀ (B A : Bs), L x0 = A ++ B →
    Ev (fun k => calepinlaw06_PathBytes.l0 k x0 ⟨h.toArray⟩ ⟨(47 :: escA h A).toArray⟩ (A.length : Int)) true := by
  intro B
  induction B with
  | nil =>
    intro A hA
    have hz : x0.size = A.length := by rw [size_L, hA]; simp
    refine Ev.k1 ?_
    have g : ¬ (A.length : Int) < (x0.size : Int) := by omega
    have hl := escA_length h A
    have g1 : (⟨(47 :: escA h A).toArray⟩ : ByteArray).size + 1 ≤ 9223372036854775807 := by rw [size_mk, List.length_cons, hl]; omega
    simp only [calepinlaw06_PathBytes.l0, g, if_false, g1, if_true]
    have := bytes_end hd x0 hf hs hn
    have e : L x0 = A := by rw [hA]; simp
    rw [e] at this
    exact this
  | cons c B ih =>
    intro A hA
    have hz : x0.size = A.length + (B.length + 1) := by rw [size_L, hA]; simp
    refine Ev.k1 ?_
    have hc := c.toNat_lt
    have g : (A.length : Int) < (x0.size : Int) := by omega
    have g0 : (0 : Int) ≤ (A.length : Int) := by omega
    have hb := bt_app x0 A c B hA
    have hlen := hd.len
    have hsz : (⟨h.toArray⟩ : ByteArray).size = 16 := by rw [size_mk, hlen]
    have a0 : (0 : Int) ≤ ((c.toNat / 16 : Nat) : Int) := by omega
    have a1 : ((c.toNat / 16 : Nat) : Int) ≤ ((c.toNat / 16 + 1 : Nat) : Int) := by omega
    have a2 : ((c.toNat / 16 + 1 : Nat) : Int) ≤ ((⟨h.toArray⟩ : ByteArray).size : Int) := by rw [hsz]; omega
    have b0 : (0 : Int) ≤ ((c.toNat % 16 : Nat) : Int) := by omega
    have b1 : ((c.toNat % 16 : Nat) : Int) ≤ ((c.toNat % 16 + 1 : Nat) : Int) := by omega
    have b2 : ((c.toNat % 16 + 1 : Nat) : Int) ≤ ((⟨h.toArray⟩ : ByteArray).size : Int) := by rw [hsz]; omega
    have x1 := extract_one h (c.toNat / 16) (by omega)
    have x2 := extract_one h (c.toNat % 16) (by omega)
    have hl := escA_length h A
    have e37 : (⟨#[37]⟩ : ByteArray) = ⟨([37] : Bs).toArray⟩ := rfl
    have d1 : 1 + 1 ≤ 9223372036854775807 := by decide
    have c1 : 1 + (⟨([h.getD (c.toNat / 16) 0] : Bs).toArray⟩ : ByteArray).size ≤ 9223372036854775807 := by rw [size_mk]; exact d1
    have c2 : ((⟨#[37]⟩ : ByteArray) ++ (⟨([h.getD (c.toNat / 16) 0] : Bs).toArray⟩ : ByteArray)).size + (⟨([h.getD (c.toNat % 16) 0] : Bs).toArray⟩ : ByteArray).size ≤ 9223372036854775807 := by
      rw [e37, app_mk, size_mk, size_mk]; show 2 + 1 ≤ 9223372036854775807; decide
    have c3 : (⟨(47 :: escA h A).toArray⟩ : ByteArray).size + (((⟨#[37]⟩ : ByteArray) ++ (⟨([h.getD (c.toNat / 16) 0] : Bs).toArray⟩ : ByteArray)) ++ (⟨([h.getD (c.toNat % 16) 0] : Bs).toArray⟩ : ByteArray)).size ≤ 9223372036854775807 := by
      rw [e37, app_mk, app_mk, size_mk, size_mk, List.length_cons, hl]
      simp only [List.length_append, List.length_cons, List.length_nil]
      omega
    have hw := wrap_succ (n := A.length) (by omega)
    simp only [calepinlaw06_PathBytes.l0, g, g0, hb, tdiv16, tmod16, div_up, mod_up, a0, a1, a2, b0, b1, b2, if_true, Int.toNat_natCast, x1, x2, Option.bind_some, c1, c2, c3, hw]
    clear hw
    rw [e37, app_mk, app_mk, app_mk]
    have e : 47 :: escA h A ++ ([37] ++ [h.getD (c.toNat / 16) 0] ++ [h.getD (c.toNat % 16) 0]) = 47 :: escA h (A ++ [c]) := by rw [escA_snoc]; simp
    rw [e]
    have hi := ih (A ++ [c]) (by rw [hA]; simp)
    have e1 : (A ++ [c]).length = A.length + 1 := by simp
    rw [e1] at hi
    exact hi
theorem bytes_any (s : ByteArray) (b : Bool) (hs : s.size ≤ 1073741824) : ∃ k, calepinlaw06_PathBytes.f k s b = some true := by
  refine Ev.rounds ?_
  unfold calepinlaw06_PathBytes.f
  refine Ev.bind first_any ?_
  simp only [if_true]
  refine Ev.bind (refFits_any s (by omega)) ?_
  by_cases hf : fitsB s = true
  · obtain ⟨f1, f2⟩ := fits_size s (by omega) hf
    have hn : L s ≠ [] := by intro e; rw [size_L, e] at f1; simp at f1
    simp only [hf, if_true]
    by_cases hb : b = true
    · simp only [hb, if_true]
      refine Ev.k1 ?_
      simp only [calepinlaw06_PathBytes.j0]
      exact bytes_loop dig_U s hf f2 hn (L s) [] rfl
    · simp only [hb, Bool.false_eq_true, if_false]
      refine Ev.k1 ?_
      simp only [calepinlaw06_PathBytes.j0]
      exact bytes_loop dig_L s hf f2 hn (L s) [] rfl
  · simp only [hf, Bool.false_eq_true, if_false]
    exact Ev.now _
end Go.Proofs.YtpifopiopgbbaaaDoor.Pf
