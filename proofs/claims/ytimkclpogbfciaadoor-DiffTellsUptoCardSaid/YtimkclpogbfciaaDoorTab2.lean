/- The table of chapter 7, walked: diff.longest fills memory of its own, row by row from the end. No conditions. -/
import Derived.Test.YtimkclpogbfciaaDoorProg
import Derived.WalkKit
import Derived.Deep.LoopGhost
import Derived.Deep.OwnRows
import Derived.Deep.Light
namespace Go.Proofs.YtimkclpogbfciaaDoor.W
open Go Go.RowKit
set_option linter.unusedVariables false
set_option linter.unusedSimpArgs false

theorem tabInt : (Tryd.prog.info? 3).map (fun i => (i.zero, i.size, i.bytes)) = some (some (.int .i64 0), 1, 8) := by kernel_rfl
theorem tabRow : (Tryd.prog.info? 30).map (fun i => (i.zero, i.size, i.bytes)) = some (some (.slice none 0 0), 1, 24) := by kernel_rfl

/-- The rows' own row, when r of them are made. -/
def topv (N H r : Nat) : Nat → Value := fun j => if j < r then .slice (some ⟨N + 1 + j, 0, none⟩) H H else .slice none 0 0

/-- A table under way: r rows are made; Z: what stands in them. -/
structure Mat (w wr : World) (G H r : Nat) (Z : Nat → Nat → Int) : Prop where
  since : w.Since w.heap.size wr
  size : wr.heap.size = w.heap.size + 1 + r
  top : wr.rowIs w.heap.size 30 G (topv w.heap.size H r)
  done : ∀ j, j < r → wr.rowIs (w.heap.size + 1 + j) 3 H (fun c => .int .i64 (Z j c))

theorem mat_start (w : World) (G H : Nat) (Z : Nat → Nat → Int) : Mat w (w.alloc (.cells (madeCells #[.slice none 0 0] G) 30)) G H 0 Z :=
  ⟨(World.Since.refl _ _).alloc (Nat.le_refl _) _, by simp, (World.rowIs_made w _ G 30).congr (fun j _ => by simp [topv]), fun j hj => absurd hj (Nat.not_lt_zero _)⟩

theorem mat_row {w wr : World} {G H r : Nat} {Z : Nat → Nat → Int} (h : Mat w wr G H r Z) (hZ : ∀ c, Z r c = 0) :
    Mat w ((wr.alloc (.cells (madeCells #[.int .i64 0] H) 3)).setCell ⟨w.heap.size, r, none⟩ (.slice (some ⟨w.heap.size + 1 + r, 0, none⟩) H H)) G H (r + 1) Z := by
  have hnew := World.rowIs_made wr (.int .i64 0) H 3
  rw [h.size] at hnew
  refine ⟨(h.since.alloc (by rw [h.size]; omega) _).setCell (Nat.le_refl _) _, by simp [h.size]; omega, ((h.top.alloc _).set r _).congr (fun j _ => ?_), fun j hj => ?_⟩
  · simp only [topv]
    by_cases e : j = r
    · subst e; simp
    · rw [if_neg e]
      by_cases hlt : j < r
      · rw [if_pos hlt, if_pos (by omega)]
      · rw [if_neg hlt, if_neg (by omega)]
  · by_cases e : j = r
    · subst e
      exact (hnew.setOther (by show w.heap.size + 1 + j ≠ w.heap.size; omega) _).congr (fun i _ => by simp [hZ])
    · exact ((h.done j (by omega)).alloc _).setOther (by show w.heap.size + 1 + j ≠ w.heap.size; omega) _

def setZ (Z : Nat → Nat → Int) (a c : Nat) (v : Int) : Nat → Nat → Int := fun i j => if i = a ∧ j = c then v else Z i j

theorem mat_set {w wr : World} {G H r : Nat} {Z : Nat → Nat → Int} (h : Mat w wr G H r Z) (a c : Nat) (v : Int) (ha : a < r) :
    Mat w (wr.setCell ⟨w.heap.size + 1 + a, c, none⟩ (.int .i64 v)) G H r (setZ Z a c v) := by
  refine ⟨h.since.setCell (by show w.heap.size ≤ w.heap.size + 1 + a; omega) _, by simp [h.size], h.top.setOther (by show w.heap.size ≠ w.heap.size + 1 + a; omega) _, fun j hj => ?_⟩
  by_cases e : j = a
  · subst e
    refine ((h.done j hj).set c _).congr (fun i _ => ?_)
    by_cases e2 : i = c
    · subst e2; simp [setZ]
    · simp [setZ, e2]
  · refine ((h.done j hj).setOther (by show w.heap.size + 1 + j ≠ w.heap.size + 1 + a; omega) _).congr (fun i _ => ?_)
    simp [setZ, e]

theorem Mat.drew {w wr : World} {G H r : Nat} {Z : Nat → Nat → Int} (h : Mat w wr G H r Z) : Mat w wr.drew G H r Z :=
  ⟨h.since.drew, h.size, h.top.drew, fun j hj => (h.done j hj).drew⟩

theorem Mat.congr {w wr : World} {G H r : Nat} {Z Z' : Nat → Nat → Int} (h : Mat w wr G H r Z) (e : ∀ i j, i < r → j < H → Z i j = Z' i j) : Mat w wr G H r Z' :=
  ⟨h.since, h.size, h.top, fun j hj => (h.done j hj).congr (fun i hi => by rw [e j i hj hi])⟩

/-- Of each two places: the table's numbers, from the ends on. -/
def tabN (X Y : Nat → ByteArray) : Nat → Nat → Nat → Nat → Int
  | a, b, 0, _ => 0
  | a, b, _, 0 => 0
  | a, b, p + 1, q + 1 => if ((X a).toList == (Y b).toList) = true then 1 + tabN X Y (a + 1) (b + 1) p q else max (tabN X Y (a + 1) b p (q + 1)) (tabN X Y a (b + 1) (p + 1) q)
def tabL (X Y : Nat → ByteArray) (A B i j : Nat) : Int := tabN X Y i j (A - i) (B - j)

theorem tabL_ends (X Y : Nat → ByteArray) (A B i j : Nat) (h : A ≤ i ∨ B ≤ j) : tabL X Y A B i j = 0 := by
  unfold tabL
  rcases h with h | h
  · rw [Nat.sub_eq_zero_of_le h]; unfold tabN; rfl
  · rw [Nat.sub_eq_zero_of_le h]; cases A - i <;> (unfold tabN; rfl)
theorem tabL_step (X Y : Nat → ByteArray) (A B i j : Nat) (hi : i < A) (hj : j < B) :
    tabL X Y A B i j = if ((X i).toList == (Y j).toList) = true then 1 + tabL X Y A B (i + 1) (j + 1) else max (tabL X Y A B (i + 1) j) (tabL X Y A B i (j + 1)) := by
  unfold tabL
  obtain ⟨p, hp⟩ : ∃ p, A - i = p + 1 := ⟨A - i - 1, by omega⟩
  obtain ⟨q, hq⟩ : ∃ q, B - j = q + 1 := ⟨B - j - 1, by omega⟩
  rw [hp, hq, show A - (i + 1) = p by omega, show B - (j + 1) = q by omega]
  conv => lhs; unfold tabN
theorem tabN_bound (X Y : Nat → ByteArray) : ∀ (m a b p q : Nat), p + q ≤ m → 0 ≤ tabN X Y a b p q ∧ tabN X Y a b p q ≤ p := by
  intro m
  induction m with
  | zero => intro a b p q h; obtain rfl : p = 0 := by omega
            unfold tabN; simp
  | succ m ih =>
    intro a b p q h
    cases p with
    | zero => unfold tabN; simp
    | succ p =>
      cases q with
      | zero => unfold tabN; simp; omega
      | succ q =>
        unfold tabN
        have h1 := ih (a + 1) (b + 1) p q (by omega)
        have h2 := ih (a + 1) b p (q + 1) (by omega)
        have h3 := ih a (b + 1) (p + 1) q (by omega)
        split <;> omega
theorem tabL_bound (X Y : Nat → ByteArray) (A B i j : Nat) : 0 ≤ tabL X Y A B i j ∧ tabL X Y A B i j ≤ A := by
  have := tabN_bound X Y _ i j (A - i) (B - j) (Nat.le_refl _)
  unfold tabL
  omega

/-- What is filled when p rows are left whole, and q places of the row ahead. -/
def fillZ (X Y : Nat → ByteArray) (A B p q : Nat) : Nat → Nat → Int := fun i j => if p ≤ i ∨ (i + 1 = p ∧ q ≤ j) then tabL X Y A B i j else 0

end Go.Proofs.YtimkclpogbfciaaDoor.W
