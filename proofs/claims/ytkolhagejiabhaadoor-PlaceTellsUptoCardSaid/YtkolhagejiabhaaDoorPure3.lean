/- Chapter 1: PlaceTells, in plain Lean over the printed functions. -/
import Derived.Test.YtkolhagejiabhaaDoorPure1
namespace Go.Proofs.YtkolhagejiabhaaDoor.W
open Go Go.Eng Go.Eng.Fl
set_option linter.unusedVariables false
set_option linter.unusedSimpArgs false

theorem kn (n : Nat) : m_suturelaw1_known n = some true := rfl
theorem addF {a b : Int} (ha : a.natAbs < 2 ^ 53) (hb : b.natAbs < 2 ^ 53) (hc : (a + b).natAbs < 2 ^ 53) : Ieee.Format.add (FloatKind.format .f64) (F a) (F b) = some (F (a + b)) := add_F a b ha hb hc
theorem subF {a b : Int} (ha : a.natAbs < 2 ^ 53) (hb : b.natAbs < 2 ^ 53) (hc : (a - b).natAbs < 2 ^ 53) : Ieee.Format.sub (FloatKind.format .f64) (F a) (F b) = some (F (a - b)) := sub_F a b ha hb hc
theorem eqF {a b : Int} (ha : a.natAbs < 2 ^ 53) (hb : b.natAbs < 2 ^ 53) : (Ieee.Format.order (FloatKind.format .f64) (F a) (F b) == some .eq) = decide (a = b) := by
  rw [order_F a b ha hb]
  by_cases h : a = b
  · subst h; simp
  · have : compare a b ≠ .eq := fun hh => h (Int.compare_eq_eq.1 hh)
    simp [h, this]
theorem ltF {a b : Int} (ha : a.natAbs < 2 ^ 53) (hb : b.natAbs < 2 ^ 53) : (Ieee.Format.order (FloatKind.format .f64) (F a) (F b) == some .lt) = decide (a < b) := by
  rw [order_F a b ha hb]
  by_cases h : a < b
  · have : compare a b = .lt := Int.compare_eq_lt.2 h
    simp [h, this]
  · have : compare a b ≠ .lt := fun hh => h (Int.compare_eq_lt.1 hh)
    simp [h, this]

theorem list_append (s t : ByteArray) : (s ++ t).data.toList = s.data.toList ++ t.data.toList := by simp

theorem small_list {l : List UInt8} (h : l.length ≤ 281474976710656) : 1 ≤ (pos l).1 ∧ (pos l).1 ≤ 281474976710657 ∧ 1 ≤ (pos l).2 ∧ (pos l).2 ≤ 281474976710657 := by
  have hb := bounds_pos l
  omega

theorem maxLen_le : (281474976710656 : Int) ≤ IntKind.i64.max := by decide

/-- Places rise. -/
theorem pos_lt (s : ByteArray) {i j : Nat} (h : i < j) (hj : j ≤ s.size) : (pos (s.data.toList.take i)).1 < (pos (s.data.toList.take j)).1 ∨ ((pos (s.data.toList.take i)).1 = (pos (s.data.toList.take j)).1 ∧ (pos (s.data.toList.take i)).2 < (pos (s.data.toList.take j)).2) := by
  have e1 : s.data.toList.take j = s.data.toList.take i ++ (s.data.toList.drop i).take (j - i) := by
    conv => lhs; rw [show j = i + (j - i) by omega]
    rw [List.take_add]
  rw [e1, pos_append]
  refine rises _ _ ?_ (bounds_pos _).2.2.1
  intro h0
  have := congrArg List.length h0
  rw [List.length_take, List.length_drop, ← size_list] at this
  simp only [List.length_nil] at this
  omega

theorem pos_inj (s : ByteArray) {i j : Nat} (hi : i ≤ s.size) (hj : j ≤ s.size) : ((pos (s.data.toList.take i)).1 = (pos (s.data.toList.take j)).1 ∧ (pos (s.data.toList.take i)).2 = (pos (s.data.toList.take j)).2) ↔ i = j := by
  constructor
  · intro h
    rcases Nat.lt_trichotomy i j with hh | hh | hh
    · have := pos_lt s hh hj; omega
    · exact hh
    · have := pos_lt s hh hi; omega
  · rintro rfl; exact ⟨rfl, rfl⟩


/-- Of, at any number. -/
theorem of_clamp (n : Nat) (s : ByteArray) (k : Int) (hs : s.size ≤ 281474976710656) (q : Nat) (hq : (q : Int) = max 0 (min (s.size : Int) k)) :
    m_place_Of n s k = some (F (pos (s.data.toList.take q)).1, F (pos (s.data.toList.take q)).2) := by
  rw [← of_eq n s q hs (by omega)]
  unfold m_place_Of
  rw [ite_clamp _ _ (by omega), ite_clamp _ _ (by omega)]
  have : max 0 (min ((s.size : Nat) : Int) (q : Int)) = max 0 (min ((s.size : Nat) : Int) k) := by omega
  rw [this]

theorem within_eq (n : Nat) (k z : Int) (hz : 0 ≤ z) : m_sutureref1_Within n k 0 z = some (max 0 (min z k)) := by
  unfold m_sutureref1_Within
  congr 1
  by_cases h : k < z
  · rw [if_pos h]; omega
  · rw [if_neg h]; omega

theorem spot_loop (n : Nat) (s : ByteArray) (hs : s.size ≤ 1048576) (q : Nat) (hq : q ≤ s.size) : ∀ (m i : Nat), i ≤ q → q < i + m →
    l_sutureref1_Spot_5 n m (s, (q : Int), (pos (s.data.toList.take i)).1, (pos (s.data.toList.take i)).2, (i : Int)) = some ((pos (s.data.toList.take q)).1, (pos (s.data.toList.take q)).2)
  | 0, i, h1, h2 => by omega
  | m + 1, i, h1, h2 => by
    unfold l_sutureref1_Spot_5 l_sutureref1_Spot_5_B
    simp only
    by_cases h : i < q
    · rw [decide_eq_true (show (i : Int) < (q : Int) by omega)]
      have hlt : i < s.data.toList.length := by rw [← size_list]; omega
      have hb : bidx true s (i : Int) = some (s.data.toList[i]) := by
        unfold bidx
        rw [decide_eq_true (show (0 : Int) ≤ (i : Int) by omega)]
        simp only [cond_true, Int.toNat_natCast]
        have h3 : i < s.size := by omega
        rw [getElem?_pos s i h3]
        simp [ByteArray.getElem_eq_getElem_data]
      have bi := small_list (l := s.data.toList.take i) (by rw [List.length_take, ← size_list]; omega)
      have bb := bounds_pos (s.data.toList.take i)
      rw [List.length_take, ← size_list] at bb
      have ht : s.data.toList.take (i + 1) = s.data.toList.take i ++ [s.data.toList[i]] := by
        rw [List.take_add_one, List.getElem?_eq_getElem hlt]; rfl
      have hp : pos (s.data.toList.take (i + 1)) = step (pos (s.data.toList.take i)) (s.data.toList[i]) := by rw [ht, pos_append]; rfl
      have ih := spot_loop n s hs q hq m (i + 1) (by omega) (by omega)
      rw [hp] at ih
      simp only [cond_true, hb, Option.bind_some]
      have hw : IntKind.wrap .i64 ((i : Int) + 1) = ((i + 1 : Nat) : Int) := by rw [wrap_id (by omega) (by omega)]; omega
      rw [hw]
      by_cases h10 : s.data.toList[i] = 10
      · have e : (((UInt8.toNat s.data.toList[i] : Nat) : Int) == 10) = true := by rw [h10]; rfl
        simp only [e, cond_true]
        rw [wrap_id (by omega) (by omega)]
        rw [show step (pos (s.data.toList.take i)) (s.data.toList[i]) = ((pos (s.data.toList.take i)).1 + 1, 1) by unfold step; rw [if_pos h10]] at ih
        exact ih
      · have e : (((UInt8.toNat s.data.toList[i] : Nat) : Int) == 10) = false := by
          rw [beq_eq_false_iff_ne]
          intro hh
          apply h10
          have : (s.data.toList[i]).toNat = 10 := by omega
          exact UInt8.toNat_inj.1 (by rw [this]; rfl)
        simp only [e, cond_false]
        rw [wrap_id (by omega) (by omega)]
        rw [show step (pos (s.data.toList.take i)) (s.data.toList[i]) = ((pos (s.data.toList.take i)).1, (pos (s.data.toList.take i)).2 + 1) by unfold step; rw [if_neg h10]] at ih
        exact ih
    · rw [decide_eq_false (show ¬ (i : Int) < (q : Int) by omega)]
      have : i = q := by omega
      subst this
      rfl

theorem spot_eq (n : Nat) (s : ByteArray) (k : Int) (hs : s.size ≤ 1048576) (hn : s.size < n) (q : Nat) (hq : (q : Int) = max 0 (min (s.size : Int) k)) :
    m_sutureref1_Spot n s k = some ((pos (s.data.toList.take q)).1, (pos (s.data.toList.take q)).2) := by
  unfold m_sutureref1_Spot
  rw [within_eq _ _ _ (by omega), ← hq]
  simp only [Option.bind_some]
  have := spot_loop n s hs q (by omega) n 0 (by omega) (by omega)
  have e0 : pos (s.data.toList.take 0) = (1, 1) := rfl
  rw [e0] at this
  simp only [Int.natCast_zero] at this
  rw [this]
  rfl

/-! printing -/

theorem toInt_F (v : Int) (h : v.natAbs < 2 ^ 53) : ((FloatKind.f64).decode (F v)).toInt .zero = some v := by
  show (Ieee.double.read (F v)).toInt .zero = some v
  by_cases h0 : v = 0
  · subst h0; decide
  · rw [read_F h0 h]
    have hL := (bounds (m := v.natAbs) (by omega) h).1
    have hl2 : (v.natAbs * 2 ^ (52 - v.natAbs.log2)).log2 = 52 := by rw [log2_shift (by omega)]; omega
    simp only [Ieee.Datum.toInt, Ieee.Datum.integral]
    have e1 : (-((52 - v.natAbs.log2 : Nat) : Int)).toNat = 0 := by omega
    have e2 : (- -((52 - v.natAbs.log2 : Nat) : Int)).toNat = 52 - v.natAbs.log2 := by omega
    rw [e1, e2, Nat.shiftLeft_zero]
    have hc : Ieee.Toward.zero.cut (decide (v < 0)) (v.natAbs * 2 ^ (52 - v.natAbs.log2)) (52 - v.natAbs.log2) = v.natAbs := by
      unfold Ieee.Toward.cut
      rw [Nat.min_eq_left (by omega)]
      have hg : (1 <<< (52 - v.natAbs.log2) : Nat) = 2 ^ (52 - v.natAbs.log2) := by rw [Nat.shiftLeft_eq, Nat.one_mul]
      rw [hg]
      exact Nat.mul_div_cancel _ (Nat.two_pow_pos _)
    rw [hc]
    unfold Ieee.signed
    rw [Nat.shiftLeft_zero]
    by_cases hv : v < 0
    · rw [decide_eq_true hv, if_pos rfl]; congr 1; omega
    · rw [decide_eq_false hv, if_neg (by simp)]; congr 1; omega

theorem whole_eq (n : Nat) (v : Int) (h1 : 1 ≤ v) (h2 : v ≤ 2147483647) : m_place_whole n (F v) = some v := by
  have e53 : (2 : Nat) ^ 53 = 9007199254740992 := rfl
  unfold m_place_whole m_math_IsNaN
  have hn : (Ieee.Format.order (FloatKind.format .f64) (F v) (F v) != some .eq) = false := by
    simp only [bne, eqF (a := v) (b := v) (by omega) (by omega)]; simp
  simp only [hn, Option.bind_some, cond_false, flo, cond_true]
  have hfar : (4746794007248502784 : Nat) = F 2147483648 := by decide
  have hmin : flMin .f64 (F v) 4746794007248502784 = some (F v) := by
    unfold flMin
    rw [hfar, order_F v 2147483648 (by omega) (by omega)]
    have : compare v 2147483648 = .lt := Int.compare_eq_lt.2 (by omega)
    rw [this]
  have hmax : flMax .f64 0 (F v) = some (F v) := by
    unfold flMax
    have := order_F 0 v (by omega) (by omega)
    rw [← zero_F] at this
    rw [this]
    have : compare 0 v = .lt := Int.compare_eq_lt.2 (by omega)
    rw [this]
  rw [hmin]
  simp only [Option.bind_some]
  rw [hmax]
  simp only [Option.bind_some, floInt, cond_true]
  rw [toInt_F v (by omega)]
  have e1 : IntKind.i64.min = -9223372036854775808 := by decide
  have e2 : IntKind.i64.max = 9223372036854775807 := by decide
  have : (decide (IntKind.i64.min ≤ v) && decide (v ≤ IntKind.i64.max)) = true := by
    rw [e1, e2]; simp only [Bool.and_eq_true, decide_eq_true_eq]; omega
  simp only [this, cond_true, Option.bind_some]

/-- A number's digits as a text. -/
def dec (v : Int) : ByteArray := ⟨(Lib.decDigits v.toNat).toArray⟩

theorem itoa_eq (n : Nat) (v : Int) (h1 : 1 ≤ v) (h2 : v ≤ 2147483647) : m_strconv_Itoa n v = some (dec v) := by
  have e20 : (10 : Nat) ^ 20 = 100000000000000000000 := rfl
  unfold m_strconv_Itoa itoaM
  have : (decide (-9223372036854775808 ≤ v) && decide (v ≤ 9223372036854775807)) = true := by
    simp only [Bool.and_eq_true, decide_eq_true_eq]; omega
  rw [this, decide_eq_false (show ¬ v < 0 by omega)]
  simp only [cond_true, cond_false]
  rw [digs_eq _ _ (by omega) (by omega)]
  rfl

theorem wrap_u8 {x : Int} (h1 : 0 ≤ x) (h2 : x ≤ 255) : IntKind.wrap .u8 x = x := by
  have e : IntKind.wrap .u8 x = x % 256 := by
    show (if (false && decide (x % (2 ^ 8 : Int) ≥ (2 ^ 7 : Int))) = true then x % (2 ^ 8 : Int) - (2 ^ 8 : Int) else x % (2 ^ 8 : Int)) = _
    simp only [Bool.false_and, Bool.false_eq_true, if_false]
    rfl
  rw [e]; omega

theorem one_digit (d : Int) (h1 : 0 ≤ d) (h2 : d < 10) : bytesIf true [(T.sc (.int .u8 (IntKind.wrap .u8 (IntKind.wrap .i64 (48 + d)))))] = some [UInt8.ofNat (48 + d.toNat)] := by
  rw [wrap_id (x := 48 + d) (by omega) (by omega), wrap_u8 (by omega) (by omega)]
  have : (48 + d).toNat = 48 + d.toNat := by omega
  simp only [bytesIf, cond_true, bytesL, Option.map_some, this]

theorem dec_len : ∀ (k u : Nat), u < 10 ^ k → 0 < k → (Lib.decDigits u).length ≤ k
  | 0, _, _, h => absurd h (Nat.lt_irrefl _)
  | k + 1, u, h, _ => by
    rw [Lib.decDigits]
    by_cases h10 : u < 10
    · rw [dif_pos h10]; simp
    · rw [dif_neg h10]
      have hk : 0 < k := by
        rcases Nat.eq_zero_or_pos k with rfl | h0
        · simp at h; omega
        · exact h0
      have := dec_len k (u / 10) (by rw [Nat.pow_succ] at h; exact Nat.div_lt_of_lt_mul (by omega)) hk
      simp only [List.length_append, List.length_singleton]
      omega

theorem digits_eq (n : Nat) : ∀ (f u : Nat), u < 10 ^ f → 0 < f → u ≤ 2147483647 → (unB_sutureref1_Digits n f).sutureref1_Digits (u : Int) = some (dec u)
  | 0, _, _, h, _ => absurd h (Nat.lt_irrefl _)
  | f + 1, u, h, _, hu => by
    have hmax : (10000 : Int) ≤ IntKind.i64.max := by decide
    unfold unB_sutureref1_Digits
    simp only
    unfold f_sutureref1_Digits dec
    rw [Int.toNat_natCast, Lib.decDigits]
    by_cases h10 : u < 10
    · rw [decide_eq_true (show (u : Int) < 10 by omega), dif_pos h10]
      simp only [cond_true]
      rw [one_digit _ (by omega) (by omega)]
      simp only [Option.bind_some, Int.toNat_natCast]
    · rw [decide_eq_false (show ¬ (u : Int) < 10 by omega), dif_neg h10]
      simp only [cond_false]
      have hd : IntKind.wrap .i64 (Int.tdiv (u : Int) 10) = ((u / 10 : Nat) : Int) := by
        have : Int.tdiv (u : Int) 10 = ((u / 10 : Nat) : Int) := by
          rw [Int.tdiv_eq_ediv_of_nonneg (by omega)]; omega
        rw [this, wrap_id (by omega) (by omega)]
      have hm : Int.tmod (u : Int) 10 = ((u % 10 : Nat) : Int) := by
        rw [Int.tmod_eq_emod_of_nonneg (by omega)]; omega
      have hf : 0 < f := by
        rcases Nat.eq_zero_or_pos f with rfl | h0
        · simp at h; omega
        · exact h0
      have ih1 := digits_eq n f (u / 10) (by rw [Nat.pow_succ] at h; exact Nat.div_lt_of_lt_mul (by omega)) hf (by omega)
      have hlen := dec_len 10 (u / 10) (by have : (10 : Nat) ^ 10 = 10000000000 := rfl; omega) (by omega)
      rw [must_eq (by decide), hd, ih1, Option.bind_some, must_eq (by decide), hm, one_digit _ (by omega) (by omega), Option.bind_some, Int.toNat_natCast]
      have hz : (dec ((u / 10 : Nat) : Int)).size ≤ 21 := by
        rw [size_list]; simp only [dec, Int.toNat_natCast, List.toList_toArray]; omega
      have hz2 : ∀ x : UInt8, (ByteArray.mk (List.toArray [x])).size = 1 := fun _ => rfl
      rw [must_eq (by simp only [decide_eq_true_eq, hz2]; omega)]
      refine congrArg some (ByteArray.ext ?_)
      simp only [dec, ByteArray.data_append, Int.toNat_natCast]
      simp

/-! the law -/

theorem back_none (n : Nat) (s : ByteArray) (hs : s.size ≤ 1048576) (l c : Int) (hl : l.natAbs < 2 ^ 53) (hc : c.natAbs < 2 ^ 53) (h : ∀ i : Nat, i ≤ s.size → ¬ ((pos (s.data.toList.take i)).1 = l ∧ (pos (s.data.toList.take i)).2 = c)) : ∀ (m at_ : Nat), at_ ≤ s.size + 1 → s.size + 1 < at_ + m →
    l_place_Back_2 n m (s, (F l, F c), (s.size : Int) + 1, (at_ : Int)) = some (Sum.inr ())
  | 0, at_, h1, h2 => by omega
  | m + 1, at_, h1, h2 => by
    have e53 : (2 : Nat) ^ 53 = 9007199254740992 := rfl
    unfold l_place_Back_2 l_place_Back_2_B
    simp only
    by_cases hlt : at_ < s.size + 1
    · have ba := small_list (l := s.data.toList.take at_) (by rw [List.length_take, ← size_list]; omega)
      rw [decide_eq_true (show (at_ : Int) < (s.size : Int) + 1 by omega)]
      simp only [of_eq n s at_ (by omega) (by omega), Option.bind_some, cond_true]
      rw [cplx_F _ _ _ _ (by omega) (by omega) hl hc, decide_eq_false (h at_ (by omega))]
      simp only [cond_false]
      rw [wrap_id (by omega) (by omega)]
      exact back_none n s hs l c hl hc h m (at_ + 1) (by omega) (by omega)
    · rw [decide_eq_false (show ¬ (at_ : Int) < (s.size : Int) + 1 by omega)]
      rfl

theorem back_some (n : Nat) (s : ByteArray) (hs : s.size ≤ 1048576) (i : Nat) (hi : i ≤ s.size) : ∀ (m at_ : Nat), at_ ≤ i → i < at_ + m →
    l_place_Back_2 n m (s, (F (pos (s.data.toList.take i)).1, F (pos (s.data.toList.take i)).2), (s.size : Int) + 1, (at_ : Int)) = some (Sum.inl ((i : Int), true))
  | 0, at_, h1, h2 => by omega
  | m + 1, at_, h1, h2 => by
    have bi := small_list (l := s.data.toList.take i) (by rw [List.length_take, ← size_list]; omega)
    have ba := small_list (l := s.data.toList.take at_) (by rw [List.length_take, ← size_list]; omega)
    have e53 : (2 : Nat) ^ 53 = 9007199254740992 := rfl
    unfold l_place_Back_2 l_place_Back_2_B
    simp only [of_eq n s at_ (by omega) (by omega), Option.bind_some]
    rw [decide_eq_true (by omega), cplx_F _ _ _ _ (by omega) (by omega) (by omega) (by omega)]
    simp only [cond_true]
    by_cases h : at_ = i
    · subst h; simp
    · have : ¬ ((pos (s.data.toList.take at_)).1 = (pos (s.data.toList.take i)).1 ∧ (pos (s.data.toList.take at_)).2 = (pos (s.data.toList.take i)).2) := fun hh => h ((pos_inj s (by omega) hi).1 hh)
      rw [decide_eq_false this]
      simp only [cond_false]
      rw [wrap_id (by omega) (by omega)]
      exact back_some n s hs i hi m (at_ + 1) (by omega) (by omega)

theorem tells_loop (n : Nat) (s : ByteArray) (hs : s.size ≤ 1048576) (hn : s.size < n) (l c x : Int) (ok : Bool) (r : Int) (last : Nat → Int → Int → Prop)
    (h0 : ∀ j w, s.size < j → last j w w) (h1 : ∀ j w w', j ≤ s.size → ((pos (s.data.toList.take j)).1 = l ∧ (pos (s.data.toList.take j)).2 = c) → last (j + 1) (j : Int) w' → last j w w')
    (h2 : ∀ j w w', j ≤ s.size → ¬ ((pos (s.data.toList.take j)).1 = l ∧ (pos (s.data.toList.take j)).2 = c) → last (j + 1) w w' → last j w w') : ∀ (m j : Nat) (w : Int), j ≤ s.size + 1 → s.size + 1 < j + m →
    ∃ w', l_suturelaw1_PlaceTells_11 n m (s, l, c, x, ok, w, (j : Int)) = some (x, ok, w') ∧ last j w w'
  | 0, j, w, h3, h4 => by omega
  | m + 1, j, w, h3, h4 => by
    unfold l_suturelaw1_PlaceTells_11 l_suturelaw1_PlaceTells_11_B
    simp only
    by_cases hlt : j ≤ s.size
    · rw [decide_eq_true (show (j : Int) ≤ (s.size : Int) by omega), spot_eq n s (j : Int) hs hn j (by omega)]
      simp only [cond_true, Option.bind_some]
      rw [wrap_id (by omega) (by omega)]
      by_cases hm : (pos (s.data.toList.take j)).1 = l ∧ (pos (s.data.toList.take j)).2 = c
      · obtain ⟨w', e1, e2⟩ := tells_loop n s hs hn l c x ok r last h0 h1 h2 m (j + 1) (j : Int) (by omega) (by omega)
        refine ⟨w', ?_, h1 j w w' hlt hm e2⟩
        rw [← e1]
        have : (bif ((pos (s.data.toList.take j)).1 == l) then ((pos (s.data.toList.take j)).2 == c) else false) = true := by rw [hm.1, hm.2]; simp
        rw [this]
        rfl
      · obtain ⟨w', e1, e2⟩ := tells_loop n s hs hn l c x ok r last h0 h1 h2 m (j + 1) w (by omega) (by omega)
        refine ⟨w', ?_, h2 j w w' hlt hm e2⟩
        rw [← e1]
        have : (bif ((pos (s.data.toList.take j)).1 == l) then ((pos (s.data.toList.take j)).2 == c) else false) = false := by
          cases hb : (bif ((pos (s.data.toList.take j)).1 == l) then ((pos (s.data.toList.take j)).2 == c) else false) with
          | false => rfl
          | true =>
            exfalso
            apply hm
            cases hx : ((pos (s.data.toList.take j)).1 == l) with
            | false => simp [hx] at hb
            | true => simp only [hx, cond_true] at hb; exact ⟨by simpa using hx, by simpa using hb⟩
        rw [this]
        rfl
    · rw [decide_eq_false (show ¬ (j : Int) ≤ (s.size : Int) by omega)]
      exact ⟨w, rfl, h0 j w (by omega)⟩

theorem dec_size (v : Int) (hv : v ≤ 2147483647) : (dec v).size ≤ 10 := by
  rw [size_list]
  simp only [dec, List.toList_toArray]
  exact dec_len 10 v.toNat (by have : (10 : Nat) ^ 10 = 10000000000 := rfl; omega) (by omega)

theorem max_big : (10000 : Int) ≤ IntKind.i64.max := by decide

theorem print_eq (N : Nat) (p : Int × Int) (h1 : 1 ≤ p.1) (h2 : p.1 ≤ 2147483647) (h3 : 1 ≤ p.2) (h4 : p.2 ≤ 2147483647) : m_place_Print N (F p.1, F p.2) = some ((dec p.1 ++ (⟨#[58]⟩ : ByteArray)) ++ dec p.2) := by
  have hcol : (⟨#[58]⟩ : ByteArray).size = 1 := rfl
  have z1 := dec_size p.1 h2
  have z2 := dec_size p.2 h4
  have hmax := max_big
  unfold m_place_Print
  dsimp only
  rw [whole_eq N p.1 h1 h2, Option.bind_some, itoa_eq N p.1 h1 h2, Option.bind_some, must_eq (by simp only [decide_eq_true_eq, hcol]; omega), whole_eq N p.2 h3 h4, Option.bind_some, itoa_eq N p.2 h3 h4, Option.bind_some, must_eq (by simp only [decide_eq_true_eq, ByteArray.size_append, hcol]; omega)]

theorem digits_all (N : Nat) (hN : 10 ≤ N) (v : Int) (h1 : 1 ≤ v) (h2 : v ≤ 2147483647) : m_sutureref1_Digits N v = some (dec v) := by
  unfold m_sutureref1_Digits
  have h10 : (10 : Nat) ^ 10 ≤ 10 ^ N := Nat.pow_le_pow_right (by omega) hN
  have e10 : (10 : Nat) ^ 10 = 10000000000 := rfl
  have := digits_eq N N v.toNat (by omega) (by omega) (by omega)
  rw [show ((v.toNat : Nat) : Int) = v by omega] at this
  exact this

/-- The law's second half. -/
theorem tells_rest (N : Nat) (s : ByteArray) (hs : s.size ≤ 1048576) (hN1 : s.size + 40 ≤ N) (l c : Nat) (hl2 : (l : Int) < 9) (hc2 : (c : Int) < 20) :
    ∃ r8 w', m_place_Back N s (FloatKind.nearest .f64 (l : Int), FloatKind.nearest .f64 (c : Int)) = some r8 ∧ l_suturelaw1_PlaceTells_11 N N (s, (l : Int), (c : Int), r8.1, r8.2, (-1), 0) = some (r8.1, r8.2, w') ∧
      ((∃ i : Nat, r8 = ((i : Int), true) ∧ w' = i) ∨ (r8 = (0, false) ∧ w' = -1)) := by
  have e53 : (2 : Nat) ^ 53 = 9007199254740992 := rfl
  by_cases hex : ∃ i : Nat, i ≤ s.size ∧ (pos (s.data.toList.take i)).1 = (l : Int) ∧ (pos (s.data.toList.take i)).2 = (c : Int)
  · obtain ⟨i, hi, h1, h2⟩ := hex
    have hb : m_place_Back N s (FloatKind.nearest .f64 (l : Int), FloatKind.nearest .f64 (c : Int)) = some ((i : Int), true) := by
      unfold m_place_Back
      rw [wrap_id (by omega) (by omega)]
      have := back_some N s hs i hi N 0 (by omega) (by omega)
      rw [h1, h2] at this
      rw [show ((0 : Nat) : Int) = 0 from rfl] at this
      rw [this]
      rfl
    obtain ⟨w', e1, e2⟩ := tells_loop N s hs (by omega) (l : Int) (c : Int) (i : Int) true 0 (fun j w w' => (j ≤ i → w' = (i : Int)) ∧ (i < j → w = (i : Int) → w' = (i : Int)))
      (fun j w hj => ⟨fun h => by omega, fun _ h => h⟩)
      (fun j w w' hj hm hh => by
        have : j = i := (pos_inj s (by omega) hi).1 ⟨hm.1.trans h1.symm, hm.2.trans h2.symm⟩
        subst this
        exact ⟨fun _ => hh.2 (by omega) rfl, fun h => by omega⟩)
      (fun j w w' hj hm hh => by
        refine ⟨fun hle => ?_, fun hlt hw => hh.2 (by omega) hw⟩
        have hne : j ≠ i := fun he => hm (by subst he; exact ⟨h1, h2⟩)
        exact hh.1 (by omega)) N 0 (-1) (by omega) (by omega)
    rw [show ((0 : Nat) : Int) = 0 from rfl] at e1
    exact ⟨((i : Int), true), w', hb, e1, .inl ⟨i, rfl, e2.1 (by omega)⟩⟩
  · have hno : ∀ i : Nat, i ≤ s.size → ¬ ((pos (s.data.toList.take i)).1 = (l : Int) ∧ (pos (s.data.toList.take i)).2 = (c : Int)) := fun i hi h => hex ⟨i, hi, h.1, h.2⟩
    have hb : m_place_Back N s (FloatKind.nearest .f64 (l : Int), FloatKind.nearest .f64 (c : Int)) = some (0, false) := by
      unfold m_place_Back
      rw [wrap_id (by omega) (by omega)]
      have := back_none N s hs (l : Int) (c : Int) (by omega) (by omega) hno N 0 (by omega) (by omega)
      rw [show ((0 : Nat) : Int) = 0 from rfl] at this
      rw [this]
      rfl
    obtain ⟨w', e1, e2⟩ := tells_loop N s hs (by omega) (l : Int) (c : Int) 0 false 0 (fun j w w' => w' = w)
      (fun j w hj => rfl) (fun j w w' hj hm hh => absurd hm (hno j hj)) (fun j w w' hj hm hh => hh) N 0 (-1) (by omega) (by omega)
    rw [show ((0 : Nat) : Int) = 0 from rfl] at e1
    exact ⟨(0, false), w', hb, e1, .inr ⟨rfl, e2⟩⟩

theorem placeTells (s : ByteArray) (at_ line col : Int) (hs : s.size ≤ 1048576) (w1 : (Lit.int .i64 at_).wf = true) (w2 : (Lit.int .i64 line).wf = true) (w3 : (Lit.int .i64 col).wf = true) : ∃ n, m_suturelaw1_PlaceTells n s at_ line col = some true := by
  refine ⟨s.size + 40, ?_⟩
  generalize hN : s.size + 40 = N
  have hN1 : s.size + 40 ≤ N := by omega
  unfold m_suturelaw1_PlaceTells
  rw [wrap_id (x := (s.size : Int) + 5) (by omega) (by omega)]
  obtain ⟨k, hk, hk2⟩ := pick_eq N at_ ((s.size : Int) + 5) (by omega) (by omega)
  obtain ⟨l, hl, hl2⟩ := pick_eq N line 9 (by omega) (by omega)
  obtain ⟨c, hc, hc2⟩ := pick_eq N col 20 (by omega) (by omega)
  have e53 : (2 : Nat) ^ 53 = 9007199254740992 := rfl
  simp only [hk, hl, hc, Option.bind_some]
  rw [wrap_id (x := (k : Int) - 2) (by omega) (by omega)]
  obtain ⟨q, hq⟩ : ∃ q : Nat, (q : Int) = max 0 (min (s.size : Int) ((k : Int) - 2)) := ⟨(max 0 (min (s.size : Int) ((k : Int) - 2))).toNat, by omega⟩
  rw [of_clamp N s _ (by omega) q hq, spot_eq N s _ hs (by omega) q hq]
  simp only [Option.bind_some]
  have bq := bounds_pos (s.data.toList.take q)
  rw [List.length_take, ← size_list] at bq
  have hce : cplxEq .f64 (F (pos (s.data.toList.take q)).1) (F (pos (s.data.toList.take q)).2) (FloatKind.nearest .f64 (pos (s.data.toList.take q)).1) (FloatKind.nearest .f64 (pos (s.data.toList.take q)).2) = true := by
    have := cplx_F (pos (s.data.toList.take q)).1 (pos (s.data.toList.take q)).2 (pos (s.data.toList.take q)).1 (pos (s.data.toList.take q)).2 (by omega) (by omega) (by omega) (by omega)
    rw [this]; simp
  simp only [hce, Bool.not_true, Bool.not_false, cond_true]
  have z1 := dec_size (pos (s.data.toList.take q)).1 (by omega)
  have z2 := dec_size (pos (s.data.toList.take q)).2 (by omega)
  have hmax := max_big
  have hcol : (⟨#[58]⟩ : ByteArray).size = 1 := rfl
  rw [print_eq N _ (by omega) (by omega) (by omega) (by omega), Option.bind_some, digits_all N (by omega) (pos (s.data.toList.take q)).1 (by omega) (by omega), Option.bind_some, digits_all N (by omega) (pos (s.data.toList.take q)).2 (by omega) (by omega)]
  rw [must_eq (by simp only [decide_eq_true_eq, hcol]; omega), Option.bind_some, must_eq (by simp only [decide_eq_true_eq, ByteArray.size_append, hcol]; omega)]
  obtain ⟨r8, w', e1, e2, e3⟩ := tells_rest N s hs hN1 l c hl2 hc2
  simp only [beq_self_eq_true, Bool.not_true, cond_false, kn, Option.bind_some, cond_true]
  rw [e1]
  simp only [Option.bind_some]
  rw [e2]
  simp only [Option.bind_some]
  rcases e3 with ⟨i, rfl, rfl⟩ | ⟨rfl, rfl⟩
  · have : decide ((i : Int) ≥ 0) = true := decide_eq_true (by omega)
    simp only [this, beq_self_eq_true, cond_true, Bool.not_true, cond_false]
  · rfl

end Go.Proofs.YtkolhagejiabhaaDoor.W
