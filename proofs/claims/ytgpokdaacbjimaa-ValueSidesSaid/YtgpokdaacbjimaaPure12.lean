/- Chapter 12, the plain laws: what value.Op and the document's own answer come to is the same; what is less goes on; a rest has its sign. No program in sight. -/
import Derived.Test.YtgpokdaacbjimaaW12
import Derived.IntWalk
namespace Go.Proofs.Ytgpokdaacbjimaa.W
open Go Go.Eng
set_option linter.unusedVariables false
set_option linter.unusedSimpArgs false

theorem op_eq (n : Nat) (k a b : Int) : m_value_Op n k a b = m_sutureref8_Op n k a b := by
  unfold m_value_Op m_sutureref8_Op m_value_truth must
  by_cases h3 : k = 3
  · simp [h3]
  by_cases h4 : k = 4
  · simp [h4]
  by_cases h5 : k = 5
  · simp [h5]
  by_cases h6 : k = 6
  · simp [h6]
  by_cases h7 : k = 7
  · by_cases h0 : b = 0
    · simp [h7, h0]
    · by_cases h1 : b = -1
      · simp [h7, h1]
      · simp [h7, h0, h1, Bool.cond_eq_ite]
  by_cases h8 : k = 8
  · by_cases h0 : b = 0
    · simp [h8, h0]
    · by_cases h1 : b = -1
      · simp [h8, h1]
      · simp [h8, h0, h1, Bool.cond_eq_ite]
  by_cases h9 : k = 9
  · by_cases h : a < b <;> simp [h9, h]
  by_cases h10 : k = 10
  · by_cases h : a = b <;> simp [h10, h, Bool.cond_eq_ite]
  simp [h3, h4, h5, h6, h7, h8, h9, h10, Bool.cond_eq_ite]

theorem truth_some (n : Nat) (q : Bool) : m_value_truth n q = some (bif q then 1 else 0) := by cases q <;> rfl

theorem op_some (n : Nat) (k a b : Int) : ∃ r, m_value_Op n k a b = some r := by
  unfold m_value_Op must
  simp only [truth_some, Option.bind_some]
  by_cases h0 : b = 0
  · simp only [h0, Bool.cond_eq_ite]
    repeat' split
    all_goals first | exact ⟨_, rfl⟩ | simp_all
  · simp only [h0, Bool.cond_eq_ite]
    repeat' split
    all_goals first | exact ⟨_, rfl⟩ | simp_all

theorem count_eq (n : Nat) (k : Int) : m_value_Count n k = m_sutureref8_Count n k := by
  by_cases h : 3 ≤ k ∧ k ≤ 10
  · have : k = 3 ∨ k = 4 ∨ k = 5 ∨ k = 6 ∨ k = 7 ∨ k = 8 ∨ k = 9 ∨ k = 10 := by omega
    rcases this with rfl | rfl | rfl | rfl | rfl | rfl | rfl | rfl <;> rfl
  · unfold m_value_Count m_sutureref8_Count
    have h3 : k ≠ 3 := by omega
    have h4 : k ≠ 4 := by omega
    have h5 : k ≠ 5 := by omega
    have h6 : k ≠ 6 := by omega
    have h7 : k ≠ 7 := by omega
    have h8 : k ≠ 8 := by omega
    have h9 : k ≠ 9 := by omega
    have h10 : k ≠ 10 := by omega
    by_cases hg : 4 ≤ k
    · have hl : ¬ k ≤ 10 := by omega
      simp [h3, h4, h5, h6, h7, h8, h9, h10, hg, hl, Bool.cond_eq_ite]
    · simp [h3, h4, h5, h6, h7, h8, h9, h10, hg, Bool.cond_eq_ite]

theorem count_some (n : Nat) (k : Int) : ∃ r, m_value_Count n k = some r := by
  unfold m_value_Count
  simp only [Bool.cond_eq_ite]
  repeat' split
  all_goals exact ⟨_, rfl⟩

theorem pick_some (n : Nat) (a m : Int) (h : m ≠ 0) : ∃ r, m_suturehand_Pick n a m = some r := by
  unfold m_suturehand_Pick must
  simp only [h, Bool.cond_eq_ite]
  repeat' split
  all_goals first | exact ⟨_, rfl⟩ | simp_all

theorem num_some (n : Nat) (a : Int) : ∃ r, m_suturelaw12_num n a = some r := by
  unfold m_suturelaw12_num
  obtain ⟨r0, h0⟩ := pick_some n a 5 (by decide)
  obtain ⟨r1, h1⟩ := pick_some n (IntKind.wrap .i64 (Int.tdiv a 5)) 7 (by decide)
  obtain ⟨r2, h2⟩ := pick_some n (IntKind.wrap .i64 (Int.tdiv a 5)) 3 (by decide)
  simp only [h0, h1, h2, Option.bind_some, must, Bool.cond_eq_ite]
  repeat' split
  all_goals first | exact ⟨_, rfl⟩ | simp_all

theorem known_true (n : Nat) : m_suturelaw12_known n = some true := rfl

theorem tells_round (n : Nat) (k : Int × Int × Int × Int × Int → Option (Bool ⊕ Unit)) (a b x y : Int) (i : Int) (h0 : i = 0 ∨ i = 1) :
    l_suturelaw12_ValueTells_2_B n k (a, b, x, y, i) = k (a, b, x, y, i + 1) := by
  have hy : ∃ z : T, idx1 true (.int .i64) [T.sc (.int .i64 x), T.sc (.int .i64 y)] i = some z := by
    rcases h0 with rfl | rfl <;> exact ⟨_, rfl⟩
  obtain ⟨z, hz⟩ := hy
  obtain ⟨ra, ha⟩ := num_some n a
  obtain ⟨rb, hb⟩ := num_some n b
  obtain ⟨ro, ho⟩ := op_some n z.int ra rb
  obtain ⟨rc, hc⟩ := count_some n z.int
  have hlt : i < 2 := by rcases h0 with rfl | rfl <;> decide
  have hw : IntKind.wrap .i64 (i + 1) = i + 1 := by rcases h0 with rfl | rfl <;> decide
  unfold l_suturelaw12_ValueTells_2_B
  simp only [hz, ha, hb, ← op_eq, ho, ← count_eq, hc, Option.bind_some, hlt, decide_true, cond_true, hw]
  simp [hc]

theorem tells (a b kind : Int) : m_suturelaw12_ValueTells 3 a b kind = some true := by
  unfold m_suturelaw12_ValueTells
  obtain ⟨r0, h0⟩ := pick_some 3 kind 14 (by decide)
  simp only [h0, Option.bind_some]
  have hl : l_suturelaw12_ValueTells_2 3 3 (a, b, kind, IntKind.wrap .i64 (r0 - 1), 0) = some (Sum.inr ()) := by
    simp only [l_suturelaw12_ValueTells_2]
    rw [tells_round _ _ _ _ _ _ _ (.inl rfl), tells_round _ _ _ _ _ _ (0 + 1) (.inr rfl)]
    rfl
  rw [hl]
  rfl

def In (x : Int) : Prop := -9223372036854775808 ≤ x ∧ x ≤ 9223372036854775807

theorem in_of {a : Int} (h : (Lit.int .i64 a).wf = true) : In a := by
  unfold In
  have h0 : (decide (IntKind.i64.min ≤ a) && decide (a ≤ IntKind.i64.max)) = true := h
  rw [Bool.and_eq_true, decide_eq_true_eq, decide_eq_true_eq] at h0
  have e1 : IntKind.i64.min = -9223372036854775808 := by decide
  have e2 : IntKind.i64.max = 9223372036854775807 := by decide
  rw [e1, e2] at h0
  exact h0

theorem wrap_id {v : Int} (h : In v) : IntKind.wrap .i64 v = v := by
  unfold In at h
  rw [IntKind.wrap_i64]; omega

theorem pick_in (n : Nat) (a m : Int) (h0 : 0 < m) (h7 : m ≤ 100) : ∃ r, m_suturehand_Pick n a m = some r ∧ 0 ≤ r ∧ r < m := by
  unfold m_suturehand_Pick must
  have e1 : Int.tmod a m < m := Int.tmod_lt_of_pos a h0
  have e2 : -m < Int.tmod a m := by
    have := Int.tmod_lt_of_pos (-a) h0
    rw [Int.neg_tmod] at this
    omega
  have hm : m ≠ 0 := by omega
  by_cases hn : Int.tmod a m < 0
  · refine ⟨Int.tmod a m + m, ?_, by omega, by omega⟩
    simp [hm, hn, wrap_id (v := Int.tmod a m + m) (by unfold In; omega)]
  · refine ⟨Int.tmod a m, ?_, by omega, by omega⟩
    simp [hm, hn]

theorem num_in (n : Nat) (a : Int) (h : In a) : ∃ r, m_suturelaw12_num n a = some r ∧ In r := by
  unfold m_suturelaw12_num
  obtain ⟨r0, h0, _, _⟩ := pick_in n a 5 (by decide) (by decide)
  obtain ⟨r1, h1, a1, b1⟩ := pick_in n (IntKind.wrap .i64 (Int.tdiv a 5)) 7 (by decide) (by decide)
  obtain ⟨r2, h2, a2, b2⟩ := pick_in n (IntKind.wrap .i64 (Int.tdiv a 5)) 3 (by decide) (by decide)
  simp only [h0, h1, h2, Option.bind_some, must, Bool.cond_eq_ite, beq_iff_eq]
  split
  · exact ⟨r1 - 3, by simp [wrap_id (v := r1 - 3) (by unfold In; omega)], by unfold In; omega⟩
  · split
    · exact ⟨9223372036854775807 - r2, by simp [wrap_id (v := 9223372036854775807 - r2) (by unfold In; omega)], by unfold In; omega⟩
    · split
      · exact ⟨-9223372036854775808 + r2, by simp [wrap_id (v := -9223372036854775808 + r2) (by unfold In; omega)], by unfold In; omega⟩
      · exact ⟨a, rfl, h⟩

theorem op_less (n : Nat) (a b : Int) : m_suturelaw12_op n 9 a b = some (if a < b then 1 else 0) := by
  by_cases h : a < b <;> simp [m_suturelaw12_op, m_value_Op, truth_some, h]
theorem op_equal (n : Nat) (a b : Int) : m_suturelaw12_op n 10 a b = some (if a = b then 1 else 0) := by
  by_cases h : a = b <;> simp [m_suturelaw12_op, m_value_Op, truth_some, h, Bool.cond_eq_ite]
theorem op_mod (n : Nat) (a b : Int) : m_value_Op n 8 a b = some (if b = 0 then (0, false) else (Int.tmod a b, true)) := by
  by_cases h : b = 0 <;> simp [m_value_Op, must, h, Bool.cond_eq_ite]

theorem rest_facts (x y : Int) (hy : y ≠ 0) : (Int.tmod x y < 0 → x < 0) ∧ (0 < Int.tmod x y → 0 < x) ∧ (0 < y → Int.tmod x y < y ∧ -Int.tmod x y < y) ∧ (y < 0 → Int.tmod x y < -y ∧ -Int.tmod x y < -y) := by
  refine ⟨fun h => ?_, fun h => ?_, fun h => ⟨Int.tmod_lt_of_pos x h, ?_⟩, fun h => ?_⟩
  · by_cases hx : 0 ≤ x
    · have := Int.tmod_nonneg y hx; omega
    · omega
  · by_cases hx : x ≤ 0
    · have := Int.tmod_nonneg y (show 0 ≤ -x by omega)
      rw [Int.neg_tmod] at this; omega
    · omega
  · have := Int.tmod_lt_of_pos (-x) h
    rw [Int.neg_tmod] at this; exact this
  · have h1 := Int.tmod_lt_of_pos x (show 0 < -y by omega)
    have h2 := Int.tmod_lt_of_pos (-x) (show 0 < -y by omega)
    rw [Int.tmod_neg] at h1 h2
    rw [Int.neg_tmod] at h2
    exact ⟨h1, h2⟩

theorem sides (a b c : Int) (ha : In a) (hb : In b) (hc : In c) : m_suturelaw12_ValueSides 1 a b c = some true := by
  obtain ⟨x, hx, ix⟩ := num_in 1 a ha
  obtain ⟨y, hy, iy⟩ := num_in 1 b hb
  obtain ⟨z, hz, iz⟩ := num_in 1 c hc
  unfold m_suturelaw12_ValueSides
  simp only [hx, hy, hz, Option.bind_some, op_mod, op_less, op_equal, known_true]
  unfold In at ix iy iz
  have key : (bif (if y = 0 then (0, false) else (Int.tmod x y, true)).2 then (bif (bif (bif (bif (decide (((if y = 0 then (0, false) else (Int.tmod x y, true)).1 : Int) < 0)) then (decide ((x : Int) ≥ 0)) else false) then true else (bif (decide (((if y = 0 then (0, false) else (Int.tmod x y, true)).1 : Int) > 0)) then (decide ((x : Int) ≤ 0)) else false)) then true else (bif (decide ((y : Int) > 0)) then (bif (decide (((if y = 0 then (0, false) else (Int.tmod x y, true)).1 : Int) ≥ y)) then true else (decide (((IntKind.wrap .i64 (0 - (if y = 0 then (0, false) else (Int.tmod x y, true)).1)) : Int) ≥ y))) else false)) then true else (bif (bif (decide ((y : Int) < 0)) then (decide ((y : Int) > (-9223372036854775808))) else false) then (bif (decide (((if y = 0 then (0, false) else (Int.tmod x y, true)).1 : Int) ≥ (IntKind.wrap .i64 (0 - y)))) then true else (decide (((IntKind.wrap .i64 (0 - (if y = 0 then (0, false) else (Int.tmod x y, true)).1)) : Int) ≥ (IntKind.wrap .i64 (0 - y))))) else false)) else false) = false := by
    by_cases h0 : y = 0
    · simp [h0]
    · obtain ⟨f1, f2, f3, f4⟩ := rest_facts x y h0
      simp only [h0, if_false, cond_true]
      generalize Int.tmod x y = t at *
      by_cases hp : 0 < y
      · obtain ⟨g1, g2⟩ := f3 hp
        rw [wrap_id (v := 0 - t) (by unfold In; omega)]
        simp only [Bool.cond_eq_ite, decide_eq_true_eq, Bool.if_true_left, Bool.if_false_right]
        simp
        refine ⟨⟨⟨by omega, by omega⟩, by omega⟩, by omega⟩
      · by_cases hm : y = -9223372036854775808
        · subst hm
          simp only [Bool.cond_eq_ite, decide_eq_true_eq, Bool.if_true_left, Bool.if_false_right]
          simp
          refine ⟨by omega, by omega⟩
        · obtain ⟨g1, g2⟩ := f4 (by omega)
          rw [wrap_id (v := 0 - t) (by unfold In; omega), wrap_id (v := 0 - y) (by unfold In; omega)]
          simp only [Bool.cond_eq_ite, decide_eq_true_eq, Bool.if_true_left, Bool.if_false_right]
          simp
          refine ⟨⟨⟨by omega, by omega⟩, by omega⟩, by omega⟩
  rw [key]
  simp only [cond_false, Option.bind_some, cond_true, Bool.true_and]
  by_cases h1 : x < y
  · have h3 : x ≠ y := by omega
    have hb : (x == y) = false := by simpa using h3
    by_cases h2 : y < z
    · have h4 : x < z := by omega
      simp [h1, h2, h3, h4, hb]
    · simp [h1, h2, h3, hb]
  · by_cases h3 : x = y <;> simp [h1, h3]

end Go.Proofs.Ytgpokdaacbjimaa.W
