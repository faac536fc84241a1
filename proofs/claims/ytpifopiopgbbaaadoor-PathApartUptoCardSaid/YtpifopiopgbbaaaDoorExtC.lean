/- (*strings.Builder).WriteByte of path.Segment: what it keeps, told more closely: blocks below a border C that are not the builder's own. -/
import Derived.Test.YtpifopiopgbbaaaDoorPbx1
namespace Go.Proofs.YtpifopiopgbbaaaDoor.Pb
open Go.Shelf Go.RowKit Go.Proofs.YtpifopiopgbbaaaDoorW.PrintWords
/-- A builder at block b whose bytes lie at C or above. -/
def BAt (C b : Nat) (bs : List Value) (w : World) : Prop :=
  b < C ∧ C ≤ w.heap.size ∧ ∃ p v, (p = .pointer none ∨ p = .pointer (some ⟨b, 0, none⟩)) ∧ w.heap[b]? = some (.cells #[p, v] 43 (0, 0)) ∧ w.ownsRow C 5 1 v bs.length bs
/-- What a write to it keeps. -/
def Fr (C b : Nat) (w w' : World) : Prop := Below b w w' ∧ ∀ k, k < C → k ≠ b → w'.heap[k]? = w.heap[k]?
theorem Fr.refl (C b : Nat) (w : World) : Fr C b w w := ⟨Below.refl _ _, fun _ _ _ => rfl⟩
theorem Fr.trans {C b : Nat} {w w1 w2 : World} (h : Fr C b w w1) (h' : Fr C b w1 w2) : Fr C b w w2 := ⟨h.1.trans h'.1, fun k hk hb => (h'.2 k hk hb).trans (h.2 k hk hb)⟩
theorem copyCheck_at (b : Nat) (p v : Value) (w : World) (hp : p = .pointer none ∨ p = .pointer (some ⟨b, 0, none⟩)) (hh : w.heap[b]? = some (.cells #[p, v] 43 (0, 0))) :
    Calls Tryd.prog 27 #[.pointer (some ⟨b, 0, none⟩)] w fun e w' => e = .returned (.tuple #[]) ∧ (w'.heap[b]? = some (.cells #[.pointer (some ⟨b, 0, none⟩), v] 43 (0, 0)) ∧ Below b w w' ∧ w'.heap.size = w.heap.size ∧ ∀ k, k ≠ b → w'.heap[k]? = w.heap[k]?) := by
  rcases hp with rfl | rfl
  · have h0 : w.cell? ⟨b, 0, none⟩ = some (.pointer none) := by rw [Lib.cell_of_heap hh]; rfl
    refine (Any.Builder_copyCheck_fresh { Tryd.lays167 with } Tryd.Builder_Extra_167.toX72 b w h0 (by simp [World.shape?, hh]; rfl) (Lib.frozen_of_heap hh 0)).mono ?_
    rintro e w' ⟨rfl, rfl⟩
    refine ⟨rfl, ?_, (Below.refl b w).setCell (Nat.le_refl _) _, by simp, fun k hk => Below.heap_setCell _ _ _ _ hk⟩
    simp [World.setCell, Array.getElem?_modify, hh]
  · have h0 : w.cell? ⟨b, 0, none⟩ = some (.pointer (some ⟨b, 0, none⟩)) := by rw [Lib.cell_of_heap hh]; rfl
    refine (Any.Builder_copyCheck_used { Tryd.lays167 with } Tryd.Builder_Extra_167.toX72 b w h0).mono ?_
    rintro e w' ⟨rfl, rfl⟩
    exact ⟨rfl, hh, Below.refl _ _, rfl, fun _ _ => rfl⟩
set_option maxHeartbeats 2000000 in
set_option maxRecDepth 100000 in
theorem write_byte (C b : Nat) (bs : List Value) (c : Int) (w : World) (h : BAt C b bs w) (hlen : bs.length + 1 ≤ 140737488355328) :
    Calls Tryd.prog 18 #[.pointer (some ⟨b, 0, none⟩), .int .u8 c] w fun e w' => e = .returned .nilIface ∧ (BAt C b (bs ++ [.int .u8 c]) w' ∧ Fr C b w w') := by
  obtain ⟨hbC, hCw, p, v, hp, hh, hown0⟩ := h
  obtain ⟨i0, hi, hz0, hz1, hz2⟩ := info_parts Tryd.Builder_Extra_167.infoByte
  go_enter Tryd.func18, Tryd.ntmps18
  go_wp2_with (go_at_call 27; refine (copyCheck_at b p v _ hp hh).mono ?_)
  rintro e w1 ⟨rfl, hbk, hb1, -, hk1⟩
  have hown : w1.ownsRow C 5 1 v bs.length bs := by
    exact hown0.kept (row := some b) ⟨hb1.os, hb1.tape, hb1.output, hb1.size, fun k _ hk => hk1 k (fun e => hk (by rw [e]))⟩ (Or.inr (fun e => by have := (hown0.lt b e).1; omega))
  have c0 : w1.cell? ⟨b, 0, none⟩ = some (.pointer (some ⟨b, 0, none⟩)) := by rw [Lib.cell_of_heap hbk]; rfl
  have c1 : w1.cell? ⟨b, 1, none⟩ = some v := by rw [Lib.cell_of_heap hbk]; rfl
  go_wp2_with (at_builtin; refine wpList_append_own _ rfl _ _ 41 rfl C 5 i0 (.int .u8 0) 1 1 Tryd.underlying41 hi hz0 hz1 hz2 rfl (by decide) _ _ _ rfl (hown.alloc _) ⟨w1.heap.size, 0, none⟩ 1 1 [.int .u8 c] rfl rfl ?c1 ?c2 ?c3 ?c4 ?c5 ?_)
  case c1 =>
    intro j u hj
    match j, hj with
    | 0, hj => simp at hj; subst hj; simp [Addr.add]
  case c2 => intro u hu; simp at hu; subst hu; rfl
  case c3 => unfold maxLen; omega
  case c4 => omega
  case c5 => have := hb1.size; simp; omega
  intro v' w2 hown' hgrow _
  have hne : ∀ k, v.ownBlock = some k → C ≤ k := fun k hk => (hown.lt k hk).1
  have hs1 := hb1.size
  have hlt : b < w1.heap.size := by omega
  have hb2 : w2.heap[b]? = some (.cells #[.pointer (some ⟨b, 0, none⟩), v] 43 (0, 0)) := by
    rw [hgrow.block b (by simp; omega) (fun e => by have := hne b e.symm; omega), Lib.alloc_old w1 _ b hlt]
    exact hbk
  have d0 : w2.cell? ⟨b, 0, none⟩ = some (.pointer (some ⟨b, 0, none⟩)) := by rw [Lib.cell_of_heap hb2]; rfl
  have d1 : w2.cell? ⟨b, 1, none⟩ = some v := by rw [Lib.cell_of_heap hb2]; rfl
  have f1 : w2.frozen? ⟨b, 1, none⟩ = false := Lib.frozen_of_heap hb2 1
  obtain ⟨g, cap, rfl⟩ : ∃ g cap, v' = .slice (some ⟨g, 0, none⟩) (bs.length + 1) cap := by
    rcases hown'.2 with ⟨_, h0⟩ | ⟨g, cap, cur, hv, _⟩
    · omega
    · exact ⟨g, cap, hv⟩
  have hgC : C ≤ g := (hown'.lt g rfl).1
  go_wp2
  go_ret
  have hal : ∀ k, k < C → k ≠ b → w2.heap[k]? = w1.heap[k]? := fun k hk _ => by
    rw [hgrow.block k (by simp; omega) (fun e => by have := hne k e.symm; omega), Lib.alloc_old w1 _ k (by omega)]
  refine ⟨rfl, ⟨hbC, by have := hgrow.size; simp at this ⊢; omega, .pointer (some ⟨b, 0, none⟩), .slice (some ⟨g, 0, none⟩) (bs.length + 1) cap, .inr rfl, ?_, ?_⟩, ?_, ?_⟩
  · simp [World.setCell, Array.getElem?_modify, hb2]
  · have e1 : (bs ++ [Value.int .u8 c]).length = bs.length + 1 := by simp
    rw [e1]
    exact hown'.kept (row := some b) ⟨rfl, rfl, rfl, by simp [World.setCell], fun k _ hk => Below.heap_setCell _ _ _ _ (fun e => hk (by simp [e]))⟩ (Or.inr (by simp [Value.ownBlock]; omega))
  · exact ((hb1.alloc (by omega) _).grown hgrow (by simp; omega) (fun k hk => by have := hne k hk; omega)).setCell (p := ⟨b, 1, none⟩) (Nat.le_refl _) _
  · intro k hk hkb
    rw [Below.heap_setCell _ _ _ _ hkb, hal k hk hkb, hk1 k hkb]
theorem fresh_bat (w : World) (o : Obj) : BAt (w.heap.size + 2) w.heap.size [] ((w.alloc (.cells #[.pointer none, .slice none 0 0] 43)).alloc o) := by
  refine ⟨by omega, by simp, .pointer none, .slice none 0 0, .inl rfl, ?_, World.ownsRow_nil _ _ _ _⟩
  rw [Lib.alloc_old _ _ _ (by simp)]
  exact heap_alloc_new w _
end Go.Proofs.YtpifopiopgbbaaaDoor.Pb
