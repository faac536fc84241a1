/- disk: what DiskSwaps asks, over the plain model. -/
import Derived.Test.YtcaipccgphblnaaPure
namespace Go.Proofs.Ytcaipccgphblnaa.Dk
set_option linter.unusedSimpArgs false
abbrev nf : Bs := [102]
abbrev nw : Bs := [110, 101, 119]
section
variable (x y : Bs) (n : Nat) (q : Int)
def a1 : St := ((newSt 1000).write nf x).2
def a2 : St := ((a1 x).sync nf).2
def a3 : St := (a2 x).flush.2
def a4 : St := (a3 x).fail n
def a5 : St := ((a4 x n).write nw y).2
def a6 : St := ((a5 x y n).sync nw).2
def a7 : St := ((a6 x y n).rename nw nf).2
def a8 : St := (a7 x y n).flush.2
def a9 : St := (a8 x y n).crash q
theorem a3_eq (hx : x.length ≤ 300) : a3 x = ⟨1000, [⟨x, x.length⟩], [(nf, 0)], [(nf, 0)], false, 0, false⟩ := by
  have h1 : a1 x = ⟨1000, [⟨x, 0⟩], [(nf, 0)], [], false, 0, false⟩ := by
    have hf : (newSt 1000).may.free = 1000 := by simp [newSt, St.may, St.free, St.gone, sumL]
    unfold a1 St.write
    rw [if_neg (by simp [St.ok, mayS, newSt]), if_neg (by simp), if_neg (by rw [hf]; omega)]
    simp [St.lay, St.may, newSt, find, put, del, ins, mayS]
  unfold a3 a2
  rw [h1]
  simp [St.sync, St.flush, St.ok, mayS, St.may, find, St.upd, St.file, St.len]
theorem a4_eq (hx : x.length ≤ 300) : a4 x n = ⟨1000, [⟨x, x.length⟩], [(nf, 0)], [(nf, 0)], true, n, false⟩ := by
  unfold a4; rw [a3_eq x hx]; rfl
theorem a4_free (hx : x.length ≤ 300) : (a4 x n).may.free = 1000 - x.length := by
  rw [a4_eq x n hx]; simp [St.may, St.free, St.gone, sumL, St.len, St.file]
/-- The write goes through. -/
theorem a5_ok (hx : x.length ≤ 300) (hy : y.length ≤ 300) (hn : 0 < n) : a5 x y n = ⟨1000, [⟨x, x.length⟩, ⟨y, 0⟩], [(nf, 0), (nw, 1)], [(nf, 0)], true, (n : Int) - 1, false⟩ := by
  have hf := a4_free x n hx
  have hb : bytesBefore nw nf = false := by decide
  unfold a5 St.write
  rw [if_neg (by rw [a4_eq x n hx]; simp [St.ok, mayS, hn]), if_neg (by simp), if_neg (by rw [hf]; omega), a4_eq x n hx]
  simp [St.lay, St.may, find, put, del, ins, mayS, hb, hn]
/-- It fails: at most a new file has come, that no safe directory says. -/
theorem a5_torn (hx : x.length ≤ 300) : ∃ fs d, a5 x y 0 = ⟨1000, ⟨x, x.length⟩ :: fs, d, [(nf, 0)], true, 0, true⟩ ∧ d.length ≤ 2 ∧ fs.length ≤ 1 := by
  have hb : bytesBefore nw nf = false := by decide
  unfold a5 St.write
  rw [if_pos (by rw [a4_eq x 0 hx]; simp [St.ok, mayS])]
  split
  · rw [a4_eq x 0 hx]
    refine ⟨[⟨y.take (y.length / 2), 0⟩], [(nf, 0), (nw, 1)], ?_, by simp, by simp⟩
    simp [St.lay, St.may, find, put, del, ins, mayS, hb]
  · rw [a4_eq x 0 hx]
    refine ⟨[], [(nf, 0)], ?_, by simp, by simp⟩
    simp [St.may, mayS]
theorem crashF_safe (l : Bs) (q : Int) : crashF q ⟨l, l.length⟩ = ⟨l, l.length⟩ := by
  unfold crashF
  simp
/-- Where the next calls fail, nothing turns. -/
theorem stays {s : St} (hf : s.failing = true) (hl : s.left = 0) : s.ok = false ∧ s.may.failing = true ∧ s.may.left = 0 ∧ s.may.files = s.files ∧ s.may.dir = s.dir ∧ s.may.safe = s.safe := by
  simp [St.ok, St.may, mayS, hf, hl]
structure Kept (s : St) (x : Bs) : Prop where
  fail : s.failing = true
  left : s.left = 0
  file : ∃ fs, s.files = ⟨x, x.length⟩ :: fs
  safe : s.safe = [(nf, 0)]
theorem Kept.sync {s : St} {x : Bs} (h : Kept s x) (m : Bs) : Kept (s.sync m).2 x := by
  have := stays h.fail h.left
  unfold St.sync
  rw [if_pos this.1]
  exact ⟨this.2.1, this.2.2.1, by rw [this.2.2.2.1]; exact h.file, by rw [this.2.2.2.2.2]; exact h.safe⟩
theorem Kept.rename {s : St} {x : Bs} (h : Kept s x) (m k : Bs) : Kept (s.rename m k).2 x := by
  have := stays h.fail h.left
  unfold St.rename
  rw [if_pos this.1]
  exact ⟨this.2.1, this.2.2.1, by rw [this.2.2.2.1]; exact h.file, by rw [this.2.2.2.2.2]; exact h.safe⟩
theorem Kept.flush {s : St} {x : Bs} (h : Kept s x) : Kept s.flush.2 x := by
  have := stays h.fail h.left
  unfold St.flush
  rw [if_pos this.1]
  exact ⟨this.2.1, this.2.2.1, by rw [this.2.2.2.1]; exact h.file, by rw [this.2.2.2.2.2]; exact h.safe⟩
theorem Kept.crash {s : St} {x : Bs} (h : Kept s x) (q : Int) : find (s.crash q).dir nf = some 0 ∧ (s.crash q).file 0 = ⟨x, x.length⟩ := by
  obtain ⟨fs, hfs⟩ := h.file
  refine ⟨?_, ?_⟩
  · show find s.safe nf = some 0
    rw [h.safe]; simp [find]
  · simp [St.crash, St.file, hfs, crashF_safe]
theorem swaps_old (hx : x.length ≤ 300) (hy : y.length ≤ 300) (hn : n < 4) : find (a9 x y n q).dir nf = some 0 ∧ ((a9 x y n q).file 0).b = x := by
  have hb : bytesBefore nw nf = false := by decide
  suffices h : Kept (a8 x y n) x by
    obtain ⟨h1, h2⟩ := h.crash q
    exact ⟨h1, by unfold a9; rw [h2]⟩
  match n, hn with
  | 0, _ =>
    obtain ⟨fs, d, he, _, _⟩ := a5_torn x y hx
    exact (((show Kept (a5 x y 0) x from ⟨by rw [he], by rw [he], ⟨fs, by rw [he]⟩, by rw [he]⟩).sync nw).rename nw nf).flush
  | 1, _ =>
    exact (((show Kept (a5 x y 1) x from ⟨by rw [a5_ok x y 1 hx hy (by omega)], by rw [a5_ok x y 1 hx hy (by omega)]; rfl, ⟨_, by rw [a5_ok x y 1 hx hy (by omega)]⟩, by rw [a5_ok x y 1 hx hy (by omega)]⟩).sync nw).rename nw nf).flush
  | 2, _ =>
    refine ((show Kept (a6 x y 2) x from ?_).rename nw nf).flush
    unfold a6
    rw [a5_ok x y 2 hx hy (by omega)]
    refine ⟨?_, ?_, ⟨[⟨y, y.length⟩], ?_⟩, ?_⟩ <;> simp [St.sync, St.ok, mayS, St.may, find, St.upd, St.file, St.len]
  | 3, _ =>
    refine (show Kept (a7 x y 3) x from ?_).flush
    unfold a7 a6
    rw [a5_ok x y 3 hx hy (by omega)]
    refine ⟨?_, ?_, ⟨[⟨y, y.length⟩], ?_⟩, ?_⟩ <;> simp [St.sync, St.rename, St.ok, mayS, St.may, find, St.upd, St.file, St.len]
  | k + 4, h => omega
theorem swaps_new (hx : x.length ≤ 300) (hy : y.length ≤ 300) (hn : 4 ≤ n) : find (a9 x y n q).dir nf = some 1 ∧ ((a9 x y n q).file 1).b = y := by
  have h1 : (0 : Int) < n := by omega
  have h2 : (0 : Int) < (n : Int) - 1 := by omega
  have h3 : (0 : Int) < (n : Int) - 1 - 1 := by omega
  have h4 : (0 : Int) < (n : Int) - 1 - 1 - 1 := by omega
  have h6 : a6 x y n = ⟨1000, [⟨x, x.length⟩, ⟨y, y.length⟩], [(nf, 0), (nw, 1)], [(nf, 0)], true, (n : Int) - 1 - 1, false⟩ := by
    unfold a6; rw [a5_ok x y n hx hy (by omega)]
    have h2' : (1 : Int) < n := by omega
    simp [St.sync, St.ok, mayS, St.may, find, St.upd, St.file, St.len, h2']
  have h7 : a7 x y n = ⟨1000, [⟨x, x.length⟩, ⟨y, y.length⟩], [(nf, 1)], [(nf, 0)], true, (n : Int) - 1 - 1 - 1, false⟩ := by
    unfold a7; rw [h6]
    have e : (⟨1000, [⟨x, x.length⟩, ⟨y, y.length⟩], [(nf, 0), (nw, 1)], [(nf, 0)], true, (n : Int) - 1 - 1, false⟩ : St).ok = true := by simp only [St.ok, mayS]; rw [if_neg (by simp), if_pos h3]
    unfold St.rename
    rw [if_neg (by rw [e]; simp)]
    simp only [find]
    simp [St.may, mayS, put, del, ins]
    rw [if_pos (by omega)]
    exact ⟨rfl, rfl⟩
  have h8 : a8 x y n = ⟨1000, [⟨x, x.length⟩, ⟨y, y.length⟩], [(nf, 1)], [(nf, 1)], true, (n : Int) - 1 - 1 - 1 - 1, false⟩ := by
    unfold a8; rw [h7]
    have e : (⟨1000, [⟨x, x.length⟩, ⟨y, y.length⟩], [(nf, 1)], [(nf, 0)], true, (n : Int) - 1 - 1 - 1, false⟩ : St).ok = true := by simp only [St.ok, mayS]; rw [if_neg (by simp), if_pos h4]
    unfold St.flush
    rw [if_neg (by rw [e]; simp)]
    simp only [St.may, mayS]
    rw [if_neg (by simp), if_pos h4]
  unfold a9
  rw [h8]
  refine ⟨by simp [St.crash, find], ?_⟩
  simp [St.crash, St.file, crashF_safe]
theorem a4_few (hx : x.length ≤ 300) : (a4 x n).dir.length ≤ 1000000000 ∧ (a4 x n).room = 1000 := by rw [a4_eq x n hx]; simp
theorem a6_few (hx : x.length ≤ 300) (hy : y.length ≤ 300) : (a6 x y n).dir.length ≤ 1000000000 := by
  have hd : (a6 x y n).dir = (a5 x y n).dir := by
    unfold a6 St.sync
    split
    · rfl
    · split <;> rfl
  rw [hd]
  by_cases h : 0 < n
  · rw [a5_ok x y n hx hy h]; simp
  · obtain rfl : n = 0 := by omega
    obtain ⟨fs, d, he, h1, _⟩ := a5_torn x y hx
    rw [he]; simp only; omega
end
end Go.Proofs.Ytcaipccgphblnaa.Dk
