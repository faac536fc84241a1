/- disk: rows of structs of two cells (the document's files and links). -/
import Derived.Test.YtcaipccgphblnaaSwaps
namespace Go.Proofs.Ytcaipccgphblnaa.Dk
open Go.RowKit Go.WideMaps Go.Proofs.YtcaipccgphblnaaW.PrintWords
set_option linter.unusedSimpArgs false
/-- The cells of structs of two cells. -/
def flat (xs : List (Value × Value)) : List Value := xs.flatMap fun p => [p.1, p.2]
theorem flat_cons (p : Value × Value) (xs : List (Value × Value)) : flat (p :: xs) = p.1 :: p.2 :: flat xs := rfl
theorem flat_append (xs ys : List (Value × Value)) : flat (xs ++ ys) = flat xs ++ flat ys := by simp [flat]
theorem flat_length : ∀ xs : List (Value × Value), (flat xs).length = xs.length * 2
  | [] => rfl
  | p :: r => by rw [flat_cons]; simp [flat_length r]; omega
theorem flat_get0 : ∀ (xs : List (Value × Value)) (i : Nat), (flat xs)[i * 2]? = xs[i]?.map (·.1)
  | [], i => by simp [flat]
  | p :: r, 0 => by simp [flat_cons]
  | p :: r, i + 1 => by
    rw [flat_cons, show (i + 1) * 2 = i * 2 + 1 + 1 by omega, List.getElem?_cons_succ, List.getElem?_cons_succ, flat_get0 r i, List.getElem?_cons_succ]
theorem flat_get1 : ∀ (xs : List (Value × Value)) (i : Nat), (flat xs)[i * 2 + 1]? = xs[i]?.map (·.2)
  | [], i => by simp [flat]
  | p :: r, 0 => by simp [flat_cons]
  | p :: r, i + 1 => by
    rw [flat_cons, show (i + 1) * 2 + 1 = (i * 2 + 1) + 1 + 1 by omega, List.getElem?_cons_succ, List.getElem?_cons_succ, flat_get1 r i, List.getElem?_cons_succ]
theorem flat_set0 : ∀ (xs : List (Value × Value)) (i : Nat) (x y : Value), xs[i]? = some (x, y) → ∀ u, (flat xs).set (i * 2) u = flat (xs.set i (u, y))
  | [], i, x, y, h, u => by simp at h
  | p :: r, 0, x, y, h, u => by simp at h; subst h; simp [flat_cons]
  | p :: r, i + 1, x, y, h, u => by
    rw [List.getElem?_cons_succ] at h
    rw [flat_cons, show (i + 1) * 2 = i * 2 + 1 + 1 by omega, List.set_cons_succ, List.set_cons_succ, flat_set0 r i x y h u, List.set_cons_succ, flat_cons]
theorem flat_set1 : ∀ (xs : List (Value × Value)) (i : Nat) (x y : Value), xs[i]? = some (x, y) → ∀ u, (flat xs).set (i * 2 + 1) u = flat (xs.set i (x, u))
  | [], i, x, y, h, u => by simp at h
  | p :: r, 0, x, y, h, u => by simp at h; subst h; simp [flat_cons]
  | p :: r, i + 1, x, y, h, u => by
    rw [List.getElem?_cons_succ] at h
    rw [flat_cons, show (i + 1) * 2 + 1 = (i * 2 + 1) + 1 + 1 by omega, List.set_cons_succ, List.set_cons_succ, flat_set1 r i x y h u, List.set_cons_succ, flat_cons]
/-- A slice of such structs, of one's own. -/
def SRow (w : World) (e : TypeId) (v : Value) (xs : List (Value × Value)) : Prop := w.ownsRow 0 e 2 v xs.length (flat xs)
section
variable {w w' : World} {e : TypeId} {v : Value} {xs : List (Value × Value)}
theorem SRow.nil (w : World) (e : TypeId) : SRow w e (.slice none 0 0) [] := World.ownsRow_nil w 0 e 2
theorem SRow.form (h : SRow w e v xs) : ∃ a cap, v = .slice a xs.length cap ∧ xs.length ≤ cap ∧ cap ≤ maxLen := by
  rcases h.2 with ⟨rfl, h0⟩ | ⟨g, cap, cur, rfl, _, _, h1, h2, _⟩
  · exact ⟨none, 0, by rw [h0], by omega, Nat.zero_le _⟩
  · exact ⟨_, cap, rfl, h1, h2⟩
theorem SRow.at (h : SRow w e v xs) {i : Nat} {x y : Value} (hi : xs[i]? = some (x, y)) : ∃ g cap cur, v = .slice (some ⟨g, 0, none⟩) xs.length cap ∧ w.heap[g]? = some (.cells cur e (0, 0)) ∧ w.cell? ⟨g, i * 2, none⟩ = some x ∧ w.cell? ⟨g, i * 2 + 1, none⟩ = some y ∧ w.frozen? ⟨g, i * 2, none⟩ = false ∧ w.frozen? ⟨g, i * 2 + 1, none⟩ = false ∧ xs.length ≤ cap ∧ cap ≤ maxLen := by
  have hc : ∀ g, v.ownBlock = some g → ∀ j u, (flat xs)[j]? = some u → w.cell? ((⟨g, 0, none⟩ : Addr).add j) = some u := fun g hg => World.ownsRow.cells h hg
  have hadd : ∀ g j, (⟨g, 0, none⟩ : Addr).add j = ⟨g, j, none⟩ := fun g j => by unfold Addr.add; split <;> simp_all
  rcases h.2 with ⟨rfl, h0⟩ | ⟨g, cap, cur, rfl, _, hg, h1, h2, _⟩
  · have : xs = [] := List.eq_nil_of_length_eq_zero h0
    subst this; simp at hi
  · have k0 := hc g rfl (i * 2) x (by rw [flat_get0, hi]; rfl)
    have k1 := hc g rfl (i * 2 + 1) y (by rw [flat_get1, hi]; rfl)
    rw [hadd] at k0 k1
    exact ⟨g, cap, cur, rfl, hg, k0, k1, by simp [World.frozen?, hg], by simp [World.frozen?, hg], h1, h2⟩
theorem SRow.heap (h : SRow w e v xs) (hk : ∀ g, v.ownBlock = some g → w'.heap[g]? = w.heap[g]?) : SRow w' e v xs := by
  refine ⟨h.1, ?_⟩
  rcases h.2 with h0 | ⟨g, cap, cur, rfl, h1, hg, r⟩
  · exact .inl h0
  · exact .inr ⟨g, cap, cur, rfl, h1, (hk g rfl).trans hg, r⟩
theorem SRow.block (h : SRow w e v xs) {g : Nat} (hg : v.ownBlock = some g) : ∃ cur, w.heap[g]? = some (.cells cur e (0, 0)) := by
  rcases h.2 with ⟨rfl, _⟩ | ⟨g', cap, cur, rfl, _, hg', r⟩
  · cases hg
  · cases hg; exact ⟨_, hg'⟩
theorem SRow.lt (h : SRow w e v xs) {g : Nat} (hg : v.ownBlock = some g) : g < w.heap.size := by
  obtain ⟨cur, hc⟩ := h.block hg
  exact (Array.getElem?_eq_some_iff.1 hc).1
theorem SRow.below (h : SRow w e v xs) (hb : Below w.heap.size w w') : SRow w' e v xs := h.heap fun g hg => hb.block g (h.lt hg)
/-- A cell of the row has turned. -/
theorem SRow.set {g i k : Nat} (h : SRow w e v xs) (hv : v.ownBlock = some g) {x y : Value} (hi : xs[i]? = some (x, y)) {ys : List (Value × Value)} (hl : ys.length = xs.length) (u : Value) (hk : k < xs.length * 2) (hf : (flat xs).set k u = flat ys) : SRow (w.setCell ⟨g, k, none⟩ u) e v ys := by
  rcases h.2 with ⟨rfl, h0⟩ | ⟨g', cap, cur, rfl, h1, hg, h2, h3, h4, h5⟩
  · cases hv
  · cases hv
    refine ⟨by rw [flat_length], .inr ⟨g', cap, cur.setIfInBounds k u, by rw [hl], h1, ?_, by rw [hl]; exact h2, h3, by simpa using h4, ?_⟩⟩
    · simp [World.setCell, Array.getElem?_modify, hg]
    · rw [Array.toList_setIfInBounds, List.take_set, hl, h5, hf]
end
/-- The links of a directory, as they lie. -/
def links (l : Lk) : List (Value × Value) := l.map fun p => (.string ⟨p.1.toArray⟩, .int .i64 (p.2 : Nat))
theorem links_get {l : Lk} {i : Nat} {p : Bs × Nat} (h : l[i]? = some p) : (links l)[i]? = some (.string ⟨p.1.toArray⟩, .int .i64 (p.2 : Nat)) := by simp [links, h]
theorem links_length (l : Lk) : (links l).length = l.length := by simp [links]
theorem find_skip {l : Lk} {n : Bs} {k : Nat} (h : ∀ j p, j < k → l[j]? = some p → p.1 ≠ n) (hk : k ≤ l.length) : find l n = find (l.drop k) n := by
  induction k generalizing l with
  | zero => rfl
  | succ k ih =>
    cases l with
    | nil => simp at hk
    | cons p r =>
      have h0 := h 0 p (by omega) rfl
      simp only [find, if_neg h0, List.drop_succ_cons]
      exact ih (fun j q hj hq => h (j + 1) q (by omega) (by simpa using hq)) (by simpa using hk)
/-- What 'find' answers. -/
def findI (l : Lk) (n : Bs) : Int := match find l n with | some i => (i : Int) | none => -1
theorem find_calls (v : Value) (l : Lk) (n : ByteArray) (w : World) (h : SRow w 53 v (links l)) (hl : l.length ≤ 1000000000) :
    Calls Try.prog 45 #[v, .string n] w fun e w' => e = .returned (.int .i64 (findI l n.data.toList)) ∧ Below w.heap.size w w' := by
  obtain ⟨a, cap, rfl, h1, h2⟩ := h.form
  rw [links_length] at h1 h ⊢
  have HS := Aside0.mk h
  have HL := Aside0.mk hl
  have hm : l.length ≤ 9223372036854775807 := by omega
  clear h h1 h2 hl
  go_enter Try.func45, Try.ntmps45
  go_wp2_with (fail)
  go_loopw [6, 9] (fun _ i wr => ∃ k : Nat, k ≤ l.length ∧ i = .int .i64 k ∧ (∀ j p, j < k → l[j]? = some p → p.1 ≠ n.data.toList) ∧ Below w.heap.size w wr) (fun _ i _ => l.length - (intOf i).toNat)
  case atStart => exact ⟨0, Nat.zero_le _, rfl, fun j p hj => absurd hj (Nat.not_lt_zero _), Below.refl _ _⟩
  case round =>
    obtain ⟨k, hk, rfl, hne, hB⟩ := hrel
    by_cases hlt : k < l.length
    · obtain ⟨g, cap', cur, hv, _, q0, q1, _, _, _, _⟩ := (SRow.below (w' := wr) HS.out hB).at (links_get (List.getElem?_eq_getElem hlt))
      rw [links_length] at hv
      cases hv
      have HN := Aside0.mk hne
      have HB := Aside0.mk hB
      clear hne hB
      have hget := List.getElem?_eq_getElem hlt
      by_cases e : l[k].1 = n.data.toList
      · have e2 : (l[k].1 == n.toList) = true := by rw [ByteArray.toList_eq]; simpa using e
        have HE : Aside0 (findI l n.data.toList = (l[k].2 : Nat)) := Aside0.mk (by
          have hd := find_skip HN.out hk
          rw [List.drop_eq_getElem_cons hlt] at hd
          unfold findI
          rw [hd]
          simp only [find, if_pos e])
        clear e hget
        go_wp2_with (fail)
        go_ret
        exact ⟨by rw [HE.out]; rfl, HB.out.trans ((Below.refl _ _).alloc HB.out.size _)⟩
      · have e2 : (l[k].1 == n.toList) = false := by rw [ByteArray.toList_eq]; simpa using e
        have HE := Aside0.mk e
        have HG := Aside0.mk hget
        clear e hget
        go_wp2_with (fail)
        refine ⟨⟨k + 1, by omega, by go_num, fun j p hj hp => ?_, HB.out.trans ((Below.refl _ _).alloc HB.out.size _)⟩, by simp [intOf]; omega⟩
        by_cases ej : j = k
        · subst ej; rw [HG.out] at hp; cases hp; exact HE.out
        · exact HN.out j p (by omega) hp
    · have HN := Aside0.mk hne
      have HB := Aside0.mk hB
      clear hne hB
      have HE : Aside0 (findI l n.data.toList = -1) := Aside0.mk (by
        have hd := find_skip HN.out hk
        rw [show l.drop k = [] from List.drop_eq_nil_of_le (by omega)] at hd
        unfold findI
        rw [hd]; rfl)
      go_wp2_with (fail)
      go_ret
      exact ⟨by rw [HE.out]; rfl, HB.out⟩
end Go.Proofs.Ytcaipccgphblnaa.Dk
