/- Whole numbers of few digits as floating-point numbers: nothing is lost; sums, differences, orders are the numbers' own. Plain Lean over the model's own arithmetic. -/
import GoSem.Core.Float
import Derived.Test.YtgpokdaacbjimabEngW
set_option linter.unusedVariables false
namespace Go.Eng.Fl
open Ieee
abbrev F (v : Int) : Nat := FloatKind.nearest .f64 v
theorem bounds {m : Nat} (h0 : m ≠ 0) (h : m < 2 ^ 53) : m.log2 <= 52 /\ 2 ^ 52 <= m * 2 ^ (52 - m.log2) /\ m * 2 ^ (52 - m.log2) < 2 ^ 53 := by
 have h1 : m.log2 < 53 := (Nat.log2_lt h0).2 h
 have h2 := Nat.log2_self_le h0
 have h3 := @Nat.lt_log2_self m
 refine ⟨by omega, ?_, ?_⟩
 ·calc 2 ^ 52 = 2 ^ m.log2 * 2 ^ (52 - m.log2) := by rw [<- Nat.pow_add]; congr 1; omega
   _ <= m * 2 ^ (52 - m.log2) := Nat.mul_le_mul_right _ h2
 ·calc m * 2 ^ (52 - m.log2) < 2 ^ (m.log2 + 1) * 2 ^ (52 - m.log2) := Nat.mul_lt_mul_of_pos_right h3 (Nat.two_pow_pos _)
   _ = 2 ^ 53 := by rw [<- Nat.pow_add]; congr 1; omega
def rung (m : Nat) : Nat := (m.log2 + 1022) * 2 ^ 52 + m * 2 ^ (52 - m.log2)
theorem log2_shift {m : Nat} (h0 : m ≠ 0) (k : Nat) : (m * 2 ^ k).log2 = m.log2 + k := by
 have hp : m * 2 ^ k ≠ 0 := Nat.mul_ne_zero h0 (Nat.pos_iff_ne_zero.1 (Nat.two_pow_pos k))
 have h2 := Nat.log2_self_le h0
 have h3 := @Nat.lt_log2_self m
 have a : m.log2 + k <= (m * 2 ^ k).log2 := (Nat.le_log2 hp).2 (by rw [Nat.pow_add]; exact Nat.mul_le_mul_right _ h2)
 have b : (m * 2 ^ k).log2 < m.log2 + k + 1 := (Nat.log2_lt hp).2 (by
  rw [show m.log2 + k + 1 = (m.log2 + 1) + k by omega, Nat.pow_add]
  exact Nat.mul_lt_mul_of_pos_right h3 (Nat.two_pow_pos _))
 omega
theorem cut_exact (neg : Bool) (q d : Nat) (n : Nat) (h : n = q * 2 ^ d) (hl : d <= n.log2 + 2) : Toward.even.cut neg n d = q := by
 unfold Toward.cut
 rw [Nat.min_eq_left hl]
 have hg : (1 <<< d : Nat) = 2 ^ d := by rw [Nat.shiftLeft_eq, Nat.one_mul]
 have hp := Nat.two_pow_pos d
 simp only [hg, h, Nat.mul_mod_left, Nat.mul_div_cancel _ hp]
 have h1 : ¬ 2 ^ d < 2 * 0 := by omega
 have h2 : (2 ^ d == 2 * 0) = false := by
  rw [beq_eq_false_iff_ne]; omega
 simp [h1]
theorem nearest_shift (s : Bool) {m : Nat} (h0 : m ≠ 0) (h : m < 2 ^ 53) (k : Nat) : double.nearest s (m * 2 ^ k) (-(k : Int)) = double.word s (rung m) := by
 obtain ⟨hL, hx1, hx2⟩ := bounds h0 h
 have hp : m * 2 ^ k ≠ 0 := Nat.mul_ne_zero h0 (Nat.pos_iff_ne_zero.1 (Nat.two_pow_pos k))
 have hlp : double.leastPlace = -1074 := by decide
 have hlast : max (-(k : Int) + ((m * 2 ^ k).log2 : Int) - (double.fractionBits : Int)) double.leastPlace = (m.log2 : Int) - 52 := by
  rw [log2_shift h0, hlp]
  have : (double.fractionBits : Int) = 52 := rfl
  omega
 unfold Format.nearest
 rw [if_neg hp]
 simp only [hlast]
 simp only [hlp]
 have hkept : Toward.even.cut s ((m * 2 ^ k) <<< (-(k : Int) - ((m.log2 : Int) - 52)).toNat) ((m.log2 : Int) - 52 - -(k : Int)).toNat = m * 2 ^ (52 - m.log2) := by
  by_cases hk : k <= 52 - m.log2
  ·have e1 : (-(k : Int) - ((m.log2 : Int) - 52)).toNat = 52 - m.log2 - k := by omega
   have e2 : ((m.log2 : Int) - 52 - -(k : Int)).toNat = 0 := by omega
   rw [e1, e2]
   refine cut_exact s _ 0 _ ?_ (by omega)
   rw [Nat.shiftLeft_eq, Nat.mul_assoc, <- Nat.pow_add, Nat.pow_zero, Nat.mul_one]
   congr 2
   omega
  ·have e1 : (-(k : Int) - ((m.log2 : Int) - 52)).toNat = 0 := by omega
   have e2 : ((m.log2 : Int) - 52 - -(k : Int)).toNat = m.log2 + k - 52 := by omega
   rw [e1, e2, Nat.shiftLeft_zero]
   refine cut_exact s _ _ _ ?_ (by rw [log2_shift h0]; omega)
   rw [Nat.mul_assoc, <- Nat.pow_add]
   congr 2
   omega
 rw [hkept]
 have e3 : ((m.log2 : Int) - 52 - -1074).toNat = m.log2 + 1022 := by omega
 have hb : double.binade = 2 ^ 52 := rfl
 have hi : double.infRung = 2047 * 2 ^ 52 := by decide
 rw [e3, hb, hi]
 congr 1
 unfold rung
 omega
theorem F_eq {v : Int} (h0 : v ≠ 0) (h : v.natAbs < 2 ^ 53) : F v = double.word (decide (v < 0)) (rung v.natAbs) := by
 have := nearest_shift (decide (v < 0)) (m := v.natAbs) (by omega) h 0
 simp only [Nat.pow_zero, Nat.mul_one] at this
 exact this
theorem read_F {v : Int} (h0 : v ≠ 0) (h : v.natAbs < 2 ^ 53) : double.read (F v) = .number (decide (v < 0)) (v.natAbs * 2 ^ (52 - v.natAbs.log2)) (-((52 - v.natAbs.log2 : Nat) : Int)) := by
 rw [F_eq h0 h]
 obtain ⟨hL, hx1, hx2⟩ := bounds (m := v.natAbs) (by omega) h
 unfold rung
 generalize v.natAbs * 2 ^ (52 - v.natAbs.log2) = X at *
 generalize v.natAbs.log2 = L at *
 have hs : double.signWeight = 2 ^ 63 := rfl
 have hb : double.binade = 2 ^ 52 := rfl
 have hi : double.infRung = 2047 * 2 ^ 52 := by decide
 have hlp : double.leastPlace = -1074 := by decide
 have key : ∀ s : Bool, double.read (double.word s ((L + 1022) * 2 ^ 52 + X)) = .number s X (-((52 - L : Nat) : Int)) := by
  intro s
  have e1 : (double.word s ((L + 1022) * 2 ^ 52 + X)) % 2 ^ 63 = (L + 1022) * 2 ^ 52 + X := by
   unfold Format.word
   rw [hs]
   cases s <;> simp only [Bool.false_eq_true, if_false, if_true] <;> omega
  have e2 : ((double.word s ((L + 1022) * 2 ^ 52 + X)) / 2 ^ 63 % 2 == 1) = s := by
   unfold Format.word
   rw [hs]
   cases s <;> simp only [Bool.false_eq_true, if_false, if_true]
   ·have : ((L + 1022) * 2 ^ 52 + X) / 2 ^ 63 = 0 := Nat.div_eq_of_lt (by omega)
    rw [this]; rfl
   ·have : (2 ^ 63 + ((L + 1022) * 2 ^ 52 + X)) / 2 ^ 63 = 1 := by omega
    rw [this]; rfl
  unfold Format.read
  simp only [hs, hb, hi, hlp, e1, e2]
  rw [if_neg (by omega), if_pos (by omega)]
  have e3 : ((L + 1022) * 2 ^ 52 + X) % 2 ^ 52 = X - 2 ^ 52 := by omega
  have e4 : ((L + 1022) * 2 ^ 52 + X) / 2 ^ 52 = L + 1023 := by omega
  have e5 : 2 ^ 52 + (X - 2 ^ 52) = X := by omega
  have e6 : (-1074 : Int) + ((L + 1023 - 1 : Nat) : Int) = -((52 - L : Nat) : Int) := by omega
  rw [e3, e4, e5, e6]
 exact key _
theorem read_zero : double.read (F 0) = .number false 0 (-((1074 : Nat) : Int)) := by decide
theorem read_val (v : Int) (h : v.natAbs < 2 ^ 53) : ∃ k : Nat, double.read (F v) = .number (decide (v < 0)) (v.natAbs * 2 ^ k) (-(k : Int)) := by
 by_cases h0 : v = 0
 ·subst h0
  have : ∀ k : Nat, Datum.number false 0 (-(k : Int)) = .number (decide ((0 : Int) < 0)) ((0 : Int).natAbs * 2 ^ k) (-(k : Int)) := by intro k; simp
  obtain ⟨k, hk⟩ : ∃ k : Nat, double.read (F 0) = .number false 0 (-(k : Int)) := ⟨1074, read_zero⟩
  exact ⟨k, hk.trans (this k)⟩
 ·exact ⟨_, read_F h0 h⟩
theorem signed_val (v : Int) (k b : Nat) (h : k <= b) : signed (decide (v < 0)) (v.natAbs * 2 ^ k) (-(k : Int) - -(b : Int)).toNat = v * (2 ^ b : Nat) := by
 have e : (-(k : Int) - -(b : Int)).toNat = b - k := by omega
 unfold signed
 rw [e, Nat.shiftLeft_eq, Nat.mul_assoc, <- Nat.pow_add, show k + (b - k) = b by omega]
 by_cases hv : v < 0
 ·rw [decide_eq_true hv, if_pos rfl]
  have : (v.natAbs : Int) = -v := by omega
  rw [Int.natCast_mul, this, Int.neg_mul, Int.neg_neg]
 ·rw [decide_eq_false hv, if_neg (by simp)]
  have : (v.natAbs : Int) = v := by omega
  rw [Int.natCast_mul, this]
theorem min_neg (k l : Nat) : min (-(k : Int)) (-(l : Int)) = -((max k l : Nat) : Int) := by omega
theorem compare_mul (a b : Int) (k : Nat) : compare (a * (2 ^ k : Nat)) (b * (2 ^ k : Nat)) = compare a b := by
 have hp : (0 : Int) < ((2 ^ k : Nat) : Int) := by exact_mod_cast Nat.two_pow_pos k
 rcases Int.lt_trichotomy a b with h | h | h
 ·rw [Int.compare_eq_lt.2 h, Int.compare_eq_lt.2 (Int.mul_lt_mul_of_pos_right h hp)]
 ·subst h; rw [Int.compare_eq_eq.2 rfl, Int.compare_eq_eq.2 rfl]
 ·rw [Int.compare_eq_gt.2 h, Int.compare_eq_gt.2 (Int.mul_lt_mul_of_pos_right h hp)]
theorem order_F (a b : Int) (ha : a.natAbs < 2 ^ 53) (hb : b.natAbs < 2 ^ 53) : (FloatKind.format .f64).order (F a) (F b) = some (compare a b) := by
 obtain ⟨k, h1⟩ := read_val a ha
 obtain ⟨l, h2⟩ := read_val b hb
 show (double.read (F a)).order (double.read (F b)) = _
 rw [h1, h2]
 simp only [Datum.order, min_neg]
 rw [signed_val a k _ (Nat.le_max_left k l), signed_val b l _ (Nat.le_max_right k l), compare_mul]
theorem write_val (v : Int) (h : v.natAbs < 2 ^ 53) (k : Nat) (s : Bool) (hs : v ≠ 0 -> s = decide (v < 0)) (hz : v = 0 -> s = false) : double.write (.number s (v * (2 ^ k : Nat)).natAbs (-(k : Int))) = F v := by
 rw [Int.natAbs_mul, Int.natAbs_natCast]
 show double.nearest s (v.natAbs * 2 ^ k) (-(k : Int)) = _
 by_cases h0 : v = 0
 ·subst h0
  rw [hz rfl]
  simp [Format.nearest]
  decide
 ·rw [nearest_shift s (by omega) h k, F_eq h0 h, hs h0]
theorem add_F (a b : Int) (ha : a.natAbs < 2 ^ 53) (hb : b.natAbs < 2 ^ 53) (hc : (a + b).natAbs < 2 ^ 53) : (FloatKind.format .f64).add (F a) (F b) = some (F (a + b)) := by
 obtain ⟨k, h1⟩ := read_val a ha
 obtain ⟨l, h2⟩ := read_val b hb
 show ((double.read (F a)).sum (double.read (F b))).map double.write = _
 rw [h1, h2]
 simp only [Datum.sum, min_neg]
 rw [signed_val a k _ (Nat.le_max_left k l), signed_val b l _ (Nat.le_max_right k l), <- Int.add_mul]
 simp only [Option.map_some, Option.some.injEq]
 have hp : (0 : Int) < ((2 ^ max k l : Nat) : Int) := by exact_mod_cast Nat.two_pow_pos _
 refine write_val (a + b) hc _ _ (fun hne => ?_) (fun he => ?_)
 ·rw [if_neg (by intro h; rcases Int.mul_eq_zero.1 h with h | h <;> omega)]
  apply decide_eq_decide.2
  constructor
  ·intro h; exact Int.lt_of_not_ge fun hge => absurd h (Int.not_lt.2 (Int.mul_nonneg hge (Int.le_of_lt hp)))
  ·intro h; exact Int.mul_neg_of_neg_of_pos h hp
 ·rw [he, Int.zero_mul, if_pos rfl]
  by_cases h3 : a < 0
  ·rw [decide_eq_true h3, decide_eq_false (by omega)]; rfl
  ·rw [decide_eq_false h3]; rfl
theorem sub_F (a b : Int) (ha : a.natAbs < 2 ^ 53) (hb : b.natAbs < 2 ^ 53) (hc : (a - b).natAbs < 2 ^ 53) : (FloatKind.format .f64).sub (F a) (F b) = some (F (a - b)) := by
 obtain ⟨k, h1⟩ := read_val a ha
 obtain ⟨l, h2⟩ := read_val b hb
 show ((double.read (F a)).sum (double.read (F b)).opposite).map double.write = _
 rw [h1, h2]
 simp only [Datum.opposite, Datum.sum, min_neg]
 have hsg : signed (!decide (b < 0)) (b.natAbs * 2 ^ l) (-(l : Int) - -((max k l : Nat) : Int)).toNat = -(b * (2 ^ max k l : Nat)) := by
  rw [<- signed_val b l _ (Nat.le_max_right k l)]
  unfold signed
  cases decide (b < 0) <;> simp
 rw [signed_val a k _ (Nat.le_max_left k l), hsg, <- Int.sub_eq_add_neg, <- Int.sub_mul]
 simp only [Option.map_some, Option.some.injEq]
 have hp : (0 : Int) < ((2 ^ max k l : Nat) : Int) := by exact_mod_cast Nat.two_pow_pos _
 refine write_val (a - b) hc _ _ (fun hne => ?_) (fun he => ?_)
 ·rw [if_neg (by intro h; rcases Int.mul_eq_zero.1 h with h | h <;> omega)]
  apply decide_eq_decide.2
  constructor
  ·intro h; exact Int.lt_of_not_ge fun hge => absurd h (Int.not_lt.2 (Int.mul_nonneg hge (Int.le_of_lt hp)))
  ·intro h; exact Int.mul_neg_of_neg_of_pos h hp
 ·rw [he, Int.zero_mul, if_pos rfl]
  have : a = b := by omega
  subst this
  cases decide (a < 0) <;> rfl
theorem one_F : (4607182418800017408 : Nat) = F 1 := by decide
theorem zero_F : (0 : Nat) = F 0 := by decide
theorem cplx_F (a b c d : Int) (ha : a.natAbs < 2 ^ 53) (hb : b.natAbs < 2 ^ 53) (hc : c.natAbs < 2 ^ 53) (hd : d.natAbs < 2 ^ 53) : cplxEq .f64 (F a) (F b) (F c) (F d) = decide (a = c /\ b = d) := by
 unfold cplxEq
 rw [order_F a c ha hc, order_F b d hb hd]
 by_cases h1 : a = c
 ·subst h1
  by_cases h2 : b = d
  ·subst h2; simp
  ·have : compare b d ≠ .eq := fun h => h2 (Int.compare_eq_eq.1 h)
   simp [h2, this]
 ·have : compare a c ≠ .eq := fun h => h1 (Int.compare_eq_eq.1 h)
  simp [h1, this]
end Go.Eng.Fl
