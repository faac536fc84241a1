/- disk: the plain model: files, directories by name; what each method makes of them. No program in sight. -/
import Derived.Maps.Views
namespace Go.Proofs.Ytcaipccgphblnaa.Dk
abbrev Bs := List UInt8
/-- A file: its bytes, how many are safe. -/
structure F where
  b : Bs
  safe : Nat
abbrev Lk := List (Bs × Nat)
structure St where
  room : Int
  files : List F
  dir : Lk
  safe : Lk
  failing : Bool
  left : Int
  torn : Bool
def find : Lk → Bs → Option Nat
  | [], _ => none
  | p :: r, n => if p.1 = n then some p.2 else find r n
def ins (n : Bs) (i : Nat) : Lk → Lk
  | [] => [(n, i)]
  | p :: r => if bytesBefore n p.1 then (n, i) :: p :: r else p :: ins n i r
def del (l : Lk) (n : Bs) : Lk := l.filter fun p => !(p.1 == n)
def put (l : Lk) (n : Bs) (i : Nat) : Lk := ins n i (del l n)
/-- What 'may' answers, and leaves. -/
def mayS (failing : Bool) (left : Int) (torn : Bool) : (Bool × Bool) × (Int × Bool) :=
  if failing = false then ((true, false), (left, torn))
  else if left > 0 then ((true, false), (left - 1, torn))
  else ((false, !torn), (left, true))
def St.ok (s : St) : Bool := (mayS s.failing s.left s.torn).1.1
def St.first (s : St) : Bool := (mayS s.failing s.left s.torn).1.2
def St.may (s : St) : St := { s with left := (mayS s.failing s.left s.torn).2.1, torn := (mayS s.failing s.left s.torn).2.2 }
def St.file (s : St) (i : Nat) : F := (s.files[i]?).getD ⟨[], 0⟩
def St.len (s : St) (i : Nat) : Nat := (s.file i).b.length
def sumL (s : St) (l : List Nat) : Nat := (l.map s.len).sum
/-- Files that the directory doesn't say any more, but the safe one does. -/
def St.gone (s : St) : List Nat := (s.safe.map (·.2)).filter fun i => !(s.dir.map (·.2)).contains i
def St.free (s : St) : Int := s.room - (sumL s (s.dir.map (·.2)) : Nat) - (sumL s s.gone : Nat)
def St.upd (s : St) (i : Nat) (f : F) : St := { s with files := s.files.set i f }
def St.lay (s : St) (n b : Bs) : St :=
  match find s.dir n with
  | some i => s.upd i ⟨(s.file i).b ++ b, (s.file i).safe⟩
  | none => { s with files := s.files ++ [⟨b, 0⟩], dir := put s.dir n s.files.length }
def St.write (s : St) (n b : Bs) : Int × St :=
  if s.ok = false then
    if s.first = true ∧ n ≠ [] ∧ 1 < b.length ∧ (b.length : Int) ≤ s.may.free then (171, s.may.lay n (b.take (b.length / 2))) else (171, s.may)
  else if n = [] then (2, s.may)
  else if s.may.free < (b.length : Int) then (170, s.may)
  else (0, s.may.lay n b)
def St.cut (s : St) (n : Bs) (k : Int) : Int × St :=
  if s.ok = false then (171, s.may) else
  match find s.dir n with
  | none => (172, s.may)
  | some i => if k < 0 ∨ (s.len i : Int) < k then (2, s.may) else (0, s.may.upd i ⟨(s.file i).b.take k.toNat, min (s.file i).safe k.toNat⟩)
def St.sync (s : St) (n : Bs) : Int × St :=
  if s.ok = false then (171, s.may) else
  match find s.dir n with
  | none => (172, s.may)
  | some i => (0, s.may.upd i ⟨(s.file i).b, s.len i⟩)
def St.rename (s : St) (a b : Bs) : Int × St :=
  if s.ok = false then (171, s.may) else
  match find s.dir a with
  | none => (172, s.may)
  | some i => if b = [] then (2, s.may) else (0, { s.may with dir := put (del s.dir a) b i })
def St.remove (s : St) (n : Bs) : Int × St :=
  if s.ok = false then (171, s.may) else
  match find s.dir n with
  | none => (172, s.may)
  | some _ => (0, { s.may with dir := del s.dir n })
def St.flush (s : St) : Int × St :=
  if s.ok = false then (171, s.may) else (0, { s.may with safe := s.dir })
def crashF (keep : Int) (f : F) : F :=
  let n := if 0 < keep then f.safe + min keep.toNat (f.b.length - f.safe) else f.safe
  ⟨f.b.take n, n⟩
def St.crash (s : St) (keep : Int) : St := { s with files := s.files.map (crashF keep), dir := s.safe, failing := false, torn := false }
def St.fail (s : St) (n : Int) : St := { s with failing := true, left := n, torn := false }
def newSt (room : Int) : St := ⟨room, [], [], [], false, 0, false⟩
/-- In use: some directory says it. -/
def St.used (s : St) (i : Nat) : Prop := i ∈ s.dir.map (·.2) ∨ i ∈ s.safe.map (·.2)
/-- A directory in order: no name twice, no file twice, each a file. -/
structure Lk.Ok (l : Lk) (k : Nat) : Prop where
  names : (l.map (·.1)).Nodup
  ats : (l.map (·.2)).Nodup
  lt : ∀ p ∈ l, p.2 < k
structure Wf (s : St) : Prop where
  room : 0 ≤ s.room ∧ s.room ≤ 9223372036854775807
  left : -9223372036854775808 ≤ s.left ∧ s.left ≤ 9223372036854775807
  dir : Lk.Ok s.dir s.files.length
  sdir : Lk.Ok s.safe s.files.length
  safe : ∀ i, (s.file i).safe ≤ s.len i
  free : 0 ≤ s.free

/-! ### names -/
theorem find_some {l : Lk} {n : Bs} {i : Nat} (h : find l n = some i) : (n, i) ∈ l := by
  induction l with
  | nil => simp [find] at h
  | cons p r ih =>
    unfold find at h
    split at h
    · rename_i e; cases h; subst e; simp
    · exact List.mem_cons_of_mem _ (ih h)
theorem find_none {l : Lk} {n : Bs} (h : find l n = none) : ∀ i, (n, i) ∉ l := by
  induction l with
  | nil => simp
  | cons p r ih =>
    unfold find at h
    split at h
    · cases h
    · rename_i e
      intro i hm
      rcases List.mem_cons.1 hm with e' | hm'
      · exact e (by rw [← e'])
      · exact ih h i hm'
theorem find_of_mem {l : Lk} {n : Bs} {i : Nat} (hn : (l.map (·.1)).Nodup) (h : (n, i) ∈ l) : find l n = some i := by
  induction l with
  | nil => simp at h
  | cons p r ih =>
    simp only [List.map_cons, List.nodup_cons] at hn
    unfold find
    rcases List.mem_cons.1 h with e | hm
    · rw [← e]; simp
    · rw [if_neg, ih hn.2 hm]
      intro e
      exact hn.1 (List.mem_map.2 ⟨_, hm, e.symm⟩)
theorem ins_perm (n : Bs) (i : Nat) : ∀ l : Lk, (ins n i l).Perm ((n, i) :: l)
  | [] => List.Perm.refl _
  | p :: r => by
    unfold ins
    split
    · exact List.Perm.refl _
    · exact ((ins_perm n i r).cons p).trans (List.Perm.swap _ _ _)
theorem mem_del {l : Lk} {n : Bs} {p : Bs × Nat} : p ∈ del l n ↔ p ∈ l ∧ p.1 ≠ n := by simp [del]
theorem mem_put {l : Lk} {n : Bs} {i : Nat} {p : Bs × Nat} : p ∈ put l n i ↔ p = (n, i) ∨ (p ∈ l ∧ p.1 ≠ n) := by
  rw [put, (ins_perm n i _).mem_iff, List.mem_cons, mem_del]
theorem okDel {l : Lk} {k : Nat} (h : Lk.Ok l k) (n : Bs) : Lk.Ok (del l n) k :=
  ⟨(List.filter_sublist.map _).nodup h.names, (List.filter_sublist.map _).nodup h.ats, fun p hp => h.lt p (mem_del.1 hp).1⟩
theorem okPut {l : Lk} {k : Nat} (h : Lk.Ok l k) (n : Bs) (i : Nat) (hi : i < k) (hn : i ∉ (del l n).map (·.2)) : Lk.Ok (put l n i) k := by
  have h' := okDel h n
  have hp := ins_perm n i (Dk.del l n)
  refine ⟨((hp.map (·.1)).nodup_iff).2 ?_, ((hp.map (·.2)).nodup_iff).2 ?_, fun p hp' => ?_⟩
  · rw [List.map_cons, List.nodup_cons]
    refine ⟨fun hm => ?_, h'.names⟩
    obtain ⟨p, hp1, hp2⟩ := List.mem_map.1 hm
    exact (mem_del.1 hp1).2 hp2
  · rw [List.map_cons, List.nodup_cons]; exact ⟨hn, h'.ats⟩
  · rcases mem_put.1 hp' with rfl | hp'
    · exact hi
    · exact h.lt p hp'.1
theorem okMono {l : Lk} {k k' : Nat} (h : Lk.Ok l k) (hk : k ≤ k') : Lk.Ok l k' := ⟨h.names, h.ats, fun p hp => Nat.lt_of_lt_of_le (h.lt p hp) hk⟩

/-! ### a directory as the datum of a map -/
def dirD (blk : Nat → Nat) (l : Lk) : DataW Unit := .map (l.map fun p => (.string p.1, .lit (.int .i64 (blk p.2 : Nat))))
theorem sameKey_string (a b : Bs) : (Lit.string a).sameKey (.string b) = (a == b) := rfl
theorem dirD_del (blk : Nat → Nat) (l : Lk) (n : Bs) : (dirD blk l).del (.string n) = dirD blk (del l n) := by
  simp only [dirD, DataW.del, del, List.filter_map]
  rfl
theorem insert_map (blk : Nat → Nat) (n : Bs) (i : Nat) : ∀ l : Lk, DataW.insert (Lit.string n, (DataW.lit (.int .i64 (blk i : Nat)) : DataW Unit)) (l.map fun p => (Lit.string p.1, DataW.lit (.int .i64 (blk p.2 : Nat)))) = (ins n i l).map fun p => (Lit.string p.1, DataW.lit (.int .i64 (blk p.2 : Nat)))
  | [] => rfl
  | p :: r => by
    show (if bytesBefore n p.1 then _ else _) = _
    unfold ins
    split
    · rfl
    · rw [List.map_cons, insert_map blk n i r]
theorem dirD_put (blk : Nat → Nat) (l : Lk) (n : Bs) (i : Nat) : (dirD blk l).put (.string n) (.lit (.int .i64 (blk i : Nat))) = dirD blk (put l n i) := by
  have h := dirD_del blk l n
  simp only [dirD, DataW.del, DataW.map.injEq] at h
  simp only [dirD, DataW.put, h, insert_map, put]
theorem dirD_atKey (blk : Nat → Nat) (n : Bs) : ∀ l : Lk, (dirD blk l).atKey (.string n) .nil = match find l n with | none => .nil | some i => .lit (.int .i64 (blk i : Nat))
  | [] => rfl
  | p :: r => by
    have ih := dirD_atKey blk n r
    simp only [dirD, DataW.atKey, List.map_cons, List.find?_cons, sameKey_string, find] at ih ⊢
    by_cases e : p.1 = n
    · simp [e]
    · have : (p.1 == n) = false := by simpa using e
      simp only [this, if_neg e]
      exact ih
theorem dirD_congr {blk blk' : Nat → Nat} {l : Lk} (h : ∀ i ∈ l.map (·.2), blk i = blk' i) : dirD blk l = dirD blk' l := by
  simp only [dirD, DataW.map.injEq]
  refine List.map_congr_left fun p hp => ?_
  rw [h p.2 (List.mem_map.2 ⟨p, hp, rfl⟩)]
theorem dirD_size (blk : Nat → Nat) (l : Lk) : Maps.size (dirD blk l) = l.length := by simp [dirD, Maps.size]
end Go.Proofs.Ytcaipccgphblnaa.Dk
