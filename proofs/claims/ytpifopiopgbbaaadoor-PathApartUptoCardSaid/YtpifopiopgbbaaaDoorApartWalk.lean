/- calepinlaw06.PathApart: the walk, by hand (its parameters are arrays). -/
import Derived.ChangeKeysEq
import Derived.Test.YtpifopiopgbbaaaDoorMakesLaw
namespace Go.Proofs.YtpifopiopgbbaaaDoor.Pf
open Go.RowKit Go.Proofs.YtpifopiopgbbaaaDoorW.PrintWords Pc
open By (L size_L L_mk mk_L L_extract)
set_option linter.unusedSimpArgs false
theorem first_calls (w : World) (hE : Env w) : Calls Tryd.prog 7 #[] w fun e w' => e = .returned (.bool true) ∧ Below w.heap.size w w' := by
  obtain ⟨k, hk⟩ := Ev.rounds first_any
  exact calepinlaw06_first.calls k true w hE hk
theorem of_calls (a b : ByteArray) (w : World) (ha : a.size ≤ 1073741824) (hb : b.size ≤ 1073741824) (hE : Env w) :
    Calls Tryd.prog 11 #[.string a, .string b] w fun e w' => e = .returned (.tuple #[.string (oOut (ofS (L a) (L b))).1, .int .i64 (oOut (ofS (L a) (L b))).2]) ∧ Below w.heap.size w w' := by
  obtain ⟨k, hk⟩ := Ev.rounds (of_any a b ha hb)
  exact path_Of.calls k a b _ _ w hE hk
/-- The two arrays in memory, and what lay before. -/
def Ars (w : World) (b : Nat) (x0 x1 y0 y1 : ByteArray) (W : World) : Prop :=
  (W.cell? ⟨b, 0, none⟩ = some (.string x0) ∧ W.cell? ⟨b, 1, none⟩ = some (.string x1) ∧ W.cell? ⟨b + 1, 0, none⟩ = some (.string y0) ∧ W.cell? ⟨b + 1, 1, none⟩ = some (.string y1)) ∧ Below w.heap.size w W
theorem Ars.later {w : World} {b : Nat} {x0 x1 y0 y1 : ByteArray} {W W' : World} (hb : Below W.heap.size W W') (h : Ars w b x0 x1 y0 y1 W) : Ars w b x0 x1 y0 y1 W' :=
  ⟨⟨pw_cell_below hb h.1.1, pw_cell_below hb h.1.2.1, pw_cell_below hb h.1.2.2.1, pw_cell_below hb h.1.2.2.2⟩, below_then h.2 h.2.size hb⟩
theorem ars_start (w : World) (x0 x1 y0 y1 : ByteArray) : Ars w w.heap.size x0 x1 y0 y1 ((w.alloc (Obj.cells #[Value.string x0, Value.string x1] 36)).alloc (Obj.cells #[Value.string y0, Value.string y1] 36)) := by
  have hs : (w.alloc (Obj.cells #[Value.string x0, Value.string x1] 36)).heap.size = w.heap.size + 1 := by simp
  have e1 : ∀ i, ((w.alloc (Obj.cells #[Value.string x0, Value.string x1] 36)).alloc (Obj.cells #[Value.string y0, Value.string y1] 36)).cell? ⟨w.heap.size, i, none⟩ = (w.alloc (Obj.cells #[Value.string x0, Value.string x1] 36)).cell? ⟨w.heap.size, i, none⟩ := fun i => World.cell?_alloc_lt _ _ _ (show w.heap.size < (w.alloc (Obj.cells #[Value.string x0, Value.string x1] 36)).heap.size by rw [hs]; omega)
  refine ⟨⟨?_, ?_, ?_, ?_⟩, ((Below.refl _ _).alloc (Nat.le_refl _) _).alloc (by rw [hs]; omega) _⟩
  · rw [e1, World.cell?_alloc_at _ _ _ _ rfl]; rfl
  · rw [e1, World.cell?_alloc_at _ _ _ _ rfl]; rfl
  · rw [World.cell?_alloc_at _ _ _ _ hs.symm]; rfl
  · rw [World.cell?_alloc_at _ _ _ _ hs.symm]; rfl
theorem eq_str (d : Nat) (a b : ByteArray) (w : World) : (Op.equalIn (d + 1) 9 (.string a) (.string b)).run Tryd.prog w = .ok (a == b) w := by
  simp [Op.equalIn, run_underlying Tryd.underlying9]
theorem eq_arr (x0 x1 y0 y1 : ByteArray) (w : World) : (Op.equalIn 10000 36 (.agg #[.string x0, .string x1]) (.agg #[.string y0, .string y1])).run Tryd.prog w = .ok (x0 == y0 && x1 == y1) w := by
  obtain ⟨i, hi⟩ : ∃ i, Tryd.prog.info? 9 = some i := Option.isSome_iff_exists.1 (by kernel_rfl)
  have hc : Tryd.prog.cellsOf 9 = 1 := by kernel_rfl
  have p0 : ∀ (a b : ByteArray) W, (part 9 #[.string a, .string b] 0).run Tryd.prog W = .ok (.string a) W := fun a b W => by
    simp [part, Tryd.isAgg9]
  have p1 : ∀ (a b : ByteArray) W, (part 9 #[.string a, .string b] 1).run Tryd.prog W = .ok (.string b) W := fun a b W => by
    simp [part, Tryd.isAgg9]
  rw [run_equalIn_array (P := Tryd.prog) (w := w) 9999 _ _ Tryd.underlying36 hi, hc]
  show (Op.eqItems 9999 9 1 _ _ [0, 1]).run Tryd.prog w = _
  have es : ∀ (a b : ByteArray) W, (Op.equalIn 9999 9 (.string a) (.string b)).run Tryd.prog W = .ok (a == b) W := fun a b W => eq_str 9998 a b W
  have last : (Op.eqItems 9999 9 1 #[.string x0, .string x1] #[.string y0, .string y1] [1]).run Tryd.prog w = .ok (x1 == y1) w := by
    simp only [Op.eqItems, Nat.mul_one, Sem.run_bind, p1, Result.andThen_ok, es]
    cases (x1 == y1) <;> simp
  rw [Op.eqItems]
  simp only [Nat.mul_one, Sem.run_bind, p0, Result.andThen_ok, es]
  cases (x0 == y0)
  · simp
  · simpa using last
theorem oOut_ok {o : Option Bs} {p : ByteArray × Int} (h : oOut o = p) (h0 : p.2 = 0) : ∃ q, o = some q ∧ p = (⟨q.toArray⟩, 0) := by
  subst h
  cases o with
  | none => exact absurd h0 (by decide)
  | some q => exact ⟨q, rfl, rfl⟩
theorem ofS_begins {a b p : Bs} (ha : a ≠ []) (h : ofS a b = some p) : ∃ c r, ofS a [] = some c ∧ p = c ++ r := by
  unfold ofS at h ⊢
  rw [if_neg (fun e => ha e.1)] at h ⊢
  by_cases hf : fitsB ⟨a.toArray⟩ = true
  · rw [if_pos hf] at h ⊢
    rw [if_pos rfl]
    by_cases hb : b = []
    · rw [if_pos hb] at h
      exact ⟨_, [], rfl, by rw [← Option.some.inj h]; simp⟩
    · rw [if_neg hb] at h
      by_cases hg : fitsB ⟨b.toArray⟩ = true
      · rw [if_pos hg] at h
        exact ⟨_, segL b, rfl, by rw [← Option.some.inj h]; simp⟩
      · rw [if_neg hg] at h; cases h
  · rw [if_neg hf] at h; cases h
theorem apart_eq {x0 x1 y0 y1 : ByteArray} {p q : Bs} (hp : ofS (L x0) (L x1) = some p) (hq : ofS (L y0) (L y1) = some q) :
    ((⟨p.toArray⟩ : ByteArray).toList == (⟨q.toArray⟩ : ByteArray).toList) = (x0 == y0 && x1 == y1) := by
  rw [beq_toListBytes x0 y0, beq_toListBytes x1 y1, By.toList_L, By.toList_L, L_mk, L_mk, By.toList_L, By.toList_L, By.toList_L, By.toList_L]
  by_cases h : L x0 = L y0 ∧ L x1 = L y1
  · rw [h.1, h.2, hq] at hp
    rw [Option.some.inj hp, h.1, h.2]
    simp
  · have h1 : (L x0 == L y0 && L x1 == L y1) = false := by
      rw [Bool.and_eq_false_iff, beq_eq_false_iff_ne, beq_eq_false_iff_ne]
      by_cases e : L x0 = L y0
      · exact .inr (fun e' => h ⟨e, e'⟩)
      · exact .inl e
    rw [h1, beq_eq_false_iff_ne]
    intro e
    subst e
    have := (parse_of hp).symm.trans (parse_of hq)
    simp only [Option.some.injEq, Prod.mk.injEq] at this
    exact h this
theorem apart_begins {x0 x1 : ByteArray} {q : Bs} {p3 : ByteArray × Int} (hx : ¬ x0.toList = []) (ho : ofS (L x0) (L x1) = some q) (hp : oOut (ofS (L x0) (L (⟨#[]⟩ : ByteArray))) = p3) :
    p3.2 = 0 ∧ p3.1.size ≤ q.length ∧ (⟨q.toArray⟩ : ByteArray).extract 0 p3.1.size = p3.1 := by
  rw [By.toList_L] at hx
  obtain ⟨c, r, h1, h2⟩ := ofS_begins hx ho
  have e : L (⟨#[]⟩ : ByteArray) = [] := rfl
  rw [e, h1] at hp
  subst hp
  subst h2
  refine ⟨rfl, ?_, ?_⟩
  · show (⟨c.toArray⟩ : ByteArray).size ≤ _
    rw [size_mk, List.length_append]; omega
  · show (⟨(c ++ r).toArray⟩ : ByteArray).extract 0 (⟨c.toArray⟩ : ByteArray).size = ⟨c.toArray⟩
    refine eq_of_L ?_
    rw [L_extract, L_mk, size_mk]
    simp
theorem apart_calls (x0 x1 y0 y1 : ByteArray) (w : World) (h : x0.size + x1.size + y0.size + y1.size ≤ 100000000) (hE : Env w) :
    Calls Tryd.prog 5 #[.agg #[.string x0, .string x1], .agg #[.string y0, .string y1]] w fun e w' => e = .returned (.bool true) ∧ Below w.heap.size w w' := by
  have HE := Aside0.mk hE
  have HS := Aside0.mk h
  clear hE h
  obtain ⟨p1, hp1⟩ : ∃ p, oOut (ofS (L x0) (L x1)) = p := ⟨_, rfl⟩
  obtain ⟨p2, hp2⟩ : ∃ p, oOut (ofS (L y0) (L y1)) = p := ⟨_, rfl⟩
  obtain ⟨p3, hp3⟩ : ∃ p, oOut (ofS (L x0) (L (⟨#[]⟩ : ByteArray))) = p := ⟨_, rfl⟩
  go_enter Tryd.func5, Tryd.ntmps5
  go_wp2_with (fail)
  have hA0 := ars_start w x0 x1 y0 y1
  obtain ⟨W0, hW0⟩ : ∃ W0, (w.alloc (Obj.cells #[Value.string x0, Value.string x1] 36)).alloc (Obj.cells #[Value.string y0, Value.string y1] 36) = W0 := ⟨_, rfl⟩
  rw [hW0] at hA0 ⊢
  refine (first_calls W0 (env_at HE.out hA0.2)).mono ?_
  rintro e w1 ⟨rfl, hb1⟩
  obtain ⟨b, hb⟩ : ∃ b, w.heap.size = b := ⟨_, rfl⟩
  rw [hb] at hA0 ⊢
  have HA := Aside0.mk (Ars.later hb1 hA0)
  clear hb1 hA0 hW0
  obtain ⟨⟨c1, c2, c3, c4⟩, _⟩ := HA.out
  go_wp2_with (fail)
  refine (of_calls x0 x1 w1 (by have := HS.out; omega) (by have := HS.out; omega) (env_at HE.out HA.out.2)).mono ?_
  rintro e w2 ⟨rfl, hb2⟩
  rw [hp1]
  have HA2 := Aside0.mk (Ars.later hb2 HA.out)
  clear hb2 HA c1 c2 c3 c4
  obtain ⟨⟨c1, c2, c3, c4⟩, _⟩ := HA2.out
  go_wp2_with (fail)
  refine (of_calls y0 y1 w2 (by have := HS.out; omega) (by have := HS.out; omega) (env_at HE.out HA2.out.2)).mono ?_
  rintro e w3 ⟨rfl, hb3⟩
  rw [hp2]
  have HA3 := Aside0.mk (Ars.later hb3 HA2.out)
  clear hb3 HA2 c1 c2 c3 c4
  obtain ⟨⟨c1, c2, c3, c4⟩, _⟩ := HA3.out
  by_cases g1 : p1.2 = 0
  · by_cases g2 : p2.2 = 0
    · rw [g1, g2]
      go_wp2_with (fail)
      refine (of_calls x0 ⟨#[]⟩ w3 (by have := HS.out; omega) (by decide) (env_at HE.out HA3.out.2)).mono ?_
      rintro e w4 ⟨rfl, hb4⟩
      rw [hp3]
      have HA4 := Aside0.mk (Ars.later hb4 HA3.out)
      clear hb4 HA3 c1 c2 c3 c4
      obtain ⟨⟨c1, c2, c3, c4⟩, _⟩ := HA4.out
      go_wp2_with (fail)
      rw [eq_arr]
      show Oper.upon _ _ _ _ _ (Result.ok (Next.value (.bool (x0 == y0 && x1 == y1))) w4)
      obtain ⟨q1, ho1, rfl⟩ := oOut_ok hp1 g1
      obtain ⟨q2, ho2, rfl⟩ := oOut_ok hp2 g2
      have hE := apart_eq ho1 ho2
      have HE1 := Aside0.mk hE
      have hB := HA4.out.2
      clear hp1 hp2 g1 g2
      go_wp2_with (fail)
      · go_ret
        exact ⟨by simp [*], hB⟩
      · rename_i hx _ _
        obtain ⟨_, _, z⟩ := apart_begins hx ho1 hp3
        go_ret
        refine ⟨?_, hB⟩
        show Ending.returned (.bool (x0.toList.isEmpty || (((⟨q1.toArray⟩ : ByteArray).extract 0 p3.1.size).toList == p3.1.toList))) = _
        rw [z, beq_self_eq_true, Bool.or_true]
      · rename_i hx _ hn
        exact absurd (apart_begins hx ho1 hp3).2.1 hn
      · rename_i hx hn
        exact absurd (apart_begins hx ho1 hp3).1 hn
      · rename_i hn
        have e := HE1.out
        rw [By.toList_L, By.toList_L, L_mk, L_mk] at e
        exact absurd e hn
    · have HB := HA3.out.2
      have d1 : (p2.2 == 0) = false := beq_eq_false_iff_ne.2 g2
      have d2 : (p2.2 != 0) = true := bne_iff_ne.2 g2
      rw [g1]
      go_wp2_with (fail)
      go_ret
      exact ⟨rfl, HB⟩
  · have HB := HA3.out.2
    have d1 : (p1.2 == 0) = false := beq_eq_false_iff_ne.2 g1
    have d2 : (p1.2 != 0) = true := bne_iff_ne.2 g1
    go_wp2_with (fail)
    go_ret
    exact ⟨rfl, HB⟩
end Go.Proofs.YtpifopiopgbbaaaDoor.Pf
