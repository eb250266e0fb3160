/- ValueRings (chapter 12): sums, products and differences of value.Op go around as the numbers do, and a quotient and its rest make the number. No condition. -/
import Derived.Test.YtgpokdaacbjimaaPValueRingsx1
namespace Go.Proofs.Ytgpokdaacbjimaa.Pure
open Go.RowKit Go.Proofs.Ytgpokdaacbjimaa.PValueRings Go.Proofs.YtgpokdaacbjimaaW.PrintWords Go.Proofs.YtgpokdaacbjimaaW.PrintLast

def In (x : Int) : Prop := -9223372036854775808 ≤ x ∧ x ≤ 9223372036854775807

theorem w_in (x : Int) : In (wrap64 x) := by unfold In wrap64; omega
theorem w_id {x : Int} (h : In x) : wrap64 x = x := by unfold In at h; unfold wrap64; omega
theorem w_mod (x : Int) : ∃ q, wrap64 x = x + q * 18446744073709551616 := ⟨if x % 18446744073709551616 ≥ 9223372036854775808 then -(x / 18446744073709551616) - 1 else -(x / 18446744073709551616), by unfold wrap64; split <;> omega⟩
theorem w_eq {x y q : Int} (h : x = y + q * 18446744073709551616) : wrap64 x = wrap64 y := by subst h; unfold wrap64; omega

theorem num_in (a : Int) (h : In a) : ∃ n, suturelaw12_num.f a = some n ∧ In n := by
  have p : ∀ (x m : Int), 0 < m → m ≤ 7 → ∃ r, suturehand_Pick.f x m = some r ∧ 0 ≤ r ∧ r < m := by
    intro x m h0 h7
    unfold suturehand_Pick.f
    rw [if_neg (by omega)]
    have e1 : Int.tmod x m < m := Int.tmod_lt_of_pos x h0
    have e2 : -m < Int.tmod x m := by
      have := Int.tmod_lt_of_pos (-x) h0
      rw [Int.neg_tmod] at this
      omega
    by_cases hn : Int.tmod x m < 0
    · rw [if_pos hn]
      exact ⟨_, rfl, by unfold wrap64; omega, by unfold wrap64; omega⟩
    · rw [if_neg hn]
      exact ⟨_, rfl, by omega, e1⟩
  unfold suturelaw12_num.f
  obtain ⟨r, hr, r0, r5⟩ := p a 5 (by omega) (by omega)
  obtain ⟨s, hs, s0, s7⟩ := p (wrap64 (Int.tdiv a 5)) 7 (by omega) (by omega)
  obtain ⟨t, ht, t0, t3⟩ := p (wrap64 (Int.tdiv a 5)) 3 (by omega) (by omega)
  rw [hr]
  simp only [Option.bind_some, hs, ht]
  split
  · exact ⟨_, rfl, w_in _⟩
  · split
    · exact ⟨_, rfl, w_in _⟩
    · split
      · exact ⟨_, rfl, w_in _⟩
      · exact ⟨_, rfl, h⟩

theorem known_f : suturelaw12_known.f = some true := by decide +kernel
theorem op_add (x y : Int) : suturelaw12_op.f 4 x y = some (wrap64 (x + y)) := by unfold suturelaw12_op.f value_Op.f; rfl
theorem op_sub (x y : Int) : suturelaw12_op.f 5 x y = some (wrap64 (x - y)) := by unfold suturelaw12_op.f value_Op.f; rfl
theorem op_neg (x y : Int) : suturelaw12_op.f 3 x y = some (wrap64 (-x)) := by unfold suturelaw12_op.f value_Op.f; rfl
theorem op_mul (x y : Int) : suturelaw12_op.f 6 x y = some (wrap64 (x * y)) := by unfold suturelaw12_op.f value_Op.f; rfl
theorem op_less (x y : Int) : suturelaw12_op.f 9 x y = some (if x < y then 1 else 0) := by
  unfold suturelaw12_op.f value_Op.f value_truth.f
  by_cases h : x < y <;> simp [h]
theorem op_equal (x y : Int) : suturelaw12_op.f 10 x y = some (if x = y then 1 else 0) := by
  unfold suturelaw12_op.f value_Op.f value_truth.f
  by_cases h : x = y <;> simp [h]
theorem op_div (x y : Int) : value_Op.f 7 x y = some (if y = 0 then (0, false) else (wrap64 (Int.tdiv x y), true)) := by
  unfold value_Op.f
  by_cases h : y = 0 <;> simp [h]
theorem op_mod (x y : Int) : value_Op.f 8 x y = some (if y = 0 then (0, false) else (Int.tmod x y, true)) := by
  unfold value_Op.f
  by_cases h : y = 0 <;> simp [h]

theorem spread (x y z : Int) : wrap64 (wrap64 (x + y) * z) = wrap64 (wrap64 (x * z) + wrap64 (y * z)) := by
  obtain ⟨q, hq⟩ := w_mod (x + y)
  obtain ⟨r, hr⟩ := w_mod (x * z)
  obtain ⟨s, hs⟩ := w_mod (y * z)
  rw [hq, hr, hs]
  refine w_eq (q := q * z - r - s) ?_
  grind

theorem back (x y : Int) (hx : In x) : wrap64 (wrap64 (wrap64 (Int.tdiv x y) * y) + Int.tmod x y) = x := by
  obtain ⟨q, hq⟩ := w_mod (Int.tdiv x y)
  obtain ⟨r, hr⟩ := w_mod (wrap64 (Int.tdiv x y) * y)
  rw [hr, hq]
  have e := Int.tdiv_mul_add_tmod x y
  have : wrap64 ((Int.tdiv x y + q * 18446744073709551616) * y + r * 18446744073709551616 + Int.tmod x y) = wrap64 x := by
    refine w_eq (q := q * y + r) ?_
    grind
  rw [this, w_id hx]

theorem tail (k : Nat) (x y z : Int) (hx : In x) (_hy : In y) : suturelaw12_ValueRings.j0 (k + 1) x y z (wrap64 (x + y)) true = some true := by
  simp only [suturelaw12_ValueRings.j0, op_add, op_sub, op_mul, op_neg, op_less, op_equal, known_f, Option.bind_some]
  have h1 : wrap64 (wrap64 (x + y) - y) = x := by unfold In at hx _hy; unfold wrap64; omega
  have h2 : wrap64 (x + y) = wrap64 (y + x) := by rw [Int.add_comm]
  have h3 : wrap64 (x + wrap64 (-x)) = 0 := by unfold In at hx; unfold wrap64; omega
  simp only [if_true]
  rw [if_pos h1, if_pos h2, if_pos (spread x y z), if_pos h3]
  simp only [Option.some.injEq, beq_iff_eq]
  by_cases h4 : x < y
  · rw [if_pos h4, if_neg (by omega), if_neg (by omega)]; unfold wrap64; omega
  · rw [if_neg h4]
    by_cases h5 : y < x
    · rw [if_pos h5, if_neg (by omega)]; unfold wrap64; omega
    · rw [if_neg h5, if_pos (by omega)]; unfold wrap64; omega

theorem ValueRings : suturelaw12_ValueRings.Pure := by
  intro a b c ha hb hc
  have ia : In a := by unfold In; revert ha; simp [Lit.wf, IntKind.min, IntKind.max, IntKind.signed, IntKind.bits]
  have ib : In b := by unfold In; revert hb; simp [Lit.wf, IntKind.min, IntKind.max, IntKind.signed, IntKind.bits]
  have ic : In c := by unfold In; revert hc; simp [Lit.wf, IntKind.min, IntKind.max, IntKind.signed, IntKind.bits]
  obtain ⟨x, hx, ix⟩ := num_in a ia
  obtain ⟨y, hy, iy⟩ := num_in b ib
  obtain ⟨z, hz, _⟩ := num_in c ic
  refine ⟨1, ?_⟩
  unfold suturelaw12_ValueRings.f
  simp only [hx, hy, hz, op_add, op_div, op_mod, op_mul, Option.bind_some]
  by_cases h0 : y = 0
  · simp only [h0, if_true, Bool.false_eq_true, if_false]
    have := tail 0 x y z ix iy
    rw [h0] at this
    exact this
  · simp only [h0, if_false, if_true]
    rw [back x y ix, beq_self_eq_true]
    exact tail 0 x y z ix iy

end Go.Proofs.Ytgpokdaacbjimaa.Pure
