/- Chapter 1: PlaceJoins, PlaceLines, PlaceApart, in plain Lean over the printed functions. -/
import Derived.Test.YtkolhagejiabhaaDoorPure1
namespace Go.Proofs.YtkolhagejiabhaaDoor.W
open Go Go.Eng Go.Eng.Fl
set_option linter.unusedVariables false
set_option linter.unusedSimpArgs false

theorem kn (n : Nat) : m_suturelaw1_known n = some true := rfl

theorem addF {a b : Int} (ha : a.natAbs < 2 ^ 53) (hb : b.natAbs < 2 ^ 53) (hc : (a + b).natAbs < 2 ^ 53) : Ieee.Format.add (FloatKind.format .f64) (F a) (F b) = some (F (a + b)) := add_F a b ha hb hc
theorem subF {a b : Int} (ha : a.natAbs < 2 ^ 53) (hb : b.natAbs < 2 ^ 53) (hc : (a - b).natAbs < 2 ^ 53) : Ieee.Format.sub (FloatKind.format .f64) (F a) (F b) = some (F (a - b)) := sub_F a b ha hb hc
theorem eqF {a b : Int} (ha : a.natAbs < 2 ^ 53) (hb : b.natAbs < 2 ^ 53) : (Ieee.Format.order (FloatKind.format .f64) (F a) (F b) == some .eq) = decide (a = b) := by
  rw [order_F a b ha hb]
  by_cases h : a = b
  · subst h; simp
  · have : compare a b ≠ .eq := fun hh => h (Int.compare_eq_eq.1 hh)
    simp [h, this]
theorem ltF {a b : Int} (ha : a.natAbs < 2 ^ 53) (hb : b.natAbs < 2 ^ 53) : (Ieee.Format.order (FloatKind.format .f64) (F a) (F b) == some .lt) = decide (a < b) := by
  rw [order_F a b ha hb]
  by_cases h : a < b
  · have : compare a b = .lt := Int.compare_eq_lt.2 h
    simp [h, this]
  · have : compare a b ≠ .lt := fun hh => h (Int.compare_eq_lt.1 hh)
    simp [h, this]

theorem list_append (s t : ByteArray) : (s ++ t).data.toList = s.data.toList ++ t.data.toList := by simp

theorem small_list {l : List UInt8} (h : l.length ≤ 281474976710656) : 1 ≤ (pos l).1 ∧ (pos l).1 ≤ 281474976710657 ∧ 1 ≤ (pos l).2 ∧ (pos l).2 ≤ 281474976710657 := by
  have hb := bounds_pos l
  omega

theorem maxLen_le : (281474976710656 : Int) ≤ IntKind.i64.max := by decide

theorem placeJoins (s t : ByteArray) (at_ : Int) (hs : s.size ≤ 140737488351232) (ht : t.size ≤ 140737488351232) (w : (Lit.int .i64 at_).wf = true) : ∃ n, m_suturelaw1_PlaceJoins n s t at_ = some true := by
  refine ⟨7, ?_⟩
  unfold m_suturelaw1_PlaceJoins
  rw [wrap_id (by omega) (by omega)]
  obtain ⟨k, hk, hk2⟩ := pick_eq 7 at_ ((t.size : Int) + 1) (by omega) (by omega)
  have hend := of_eq 7 s s.size (by omega) (Nat.le_refl _)
  have hp := of_eq 7 t k (by omega) (by omega)
  rw [size_list s, List.take_length, ← size_list] at hend
  simp only [hk, hend, hp, Option.bind_some, flo, cond_true, kn]
  rw [one_F, zero_F]
  have bs := small_list (l := s.data.toList) (by rw [← size_list]; omega)
  have bt := small_list (l := t.data.toList.take k) (by rw [List.length_take, ← size_list]; omega)
  have e53 : (2 : Nat) ^ 53 = 9007199254740992 := rfl
  have hmax := maxLen_le
  rw [subF (by omega) (by omega) (by omega)]
  simp only [Option.bind_some]
  rw [addF (by omega) (by omega) (by omega), Option.bind_some, addF (by omega) (by omega) (by omega), Option.bind_some, eqF (by omega) (by omega)]
  have hsum : IntKind.wrap .i64 ((s.size : Int) + (k : Int)) = ((s.size + k : Nat) : Int) := by rw [wrap_id (by omega) (by omega)]; omega
  have hcat : (s ++ t).size = s.size + t.size := by rw [size_list, list_append, List.length_append, ← size_list, ← size_list]
  have hall := of_eq 7 (s ++ t) (s.size + k) (by omega) (by omega)
  have htake : (s ++ t).data.toList.take (s.size + k) = s.data.toList ++ t.data.toList.take k := by
    rw [list_append, size_list s, List.take_length_add_append]
  rw [htake, pos_append] at hall
  have hf := from_pos (pos s.data.toList) (t.data.toList.take k)
  by_cases h1 : (pos (t.data.toList.take k)).1 = 1
  · rw [decide_eq_true h1]
    simp only [cond_true]
    rw [addF (by omega) (by omega) (by omega), Option.bind_some, addF (by omega) (by omega) (by omega), Option.bind_some, subF (by omega) (by omega) (by omega), Option.bind_some, subF (by omega) (by omega) (by omega), Option.bind_some]
    rw [must_eq (by simp only [decide_eq_true_eq]; omega), hsum, hall, Option.bind_some, hf.1 h1]
    simp only
    rw [cplx_F _ _ _ _ (by omega) (by omega) (by omega) (by omega)]
    simp only [Option.some.injEq, decide_eq_true_eq]
    omega
  · rw [decide_eq_false h1]
    simp only [cond_false, Option.bind_some, cond_true]
    rw [must_eq (by simp only [decide_eq_true_eq]; omega), hsum, hall, Option.bind_some, hf.2 h1]
    simp only
    rw [cplx_F _ _ _ _ (by omega) (by omega) (by omega) (by omega)]
    simp only [Option.some.injEq, decide_eq_true_eq]
    omega

theorem placeLines (s : ByteArray) (cut at_ : Int) (hs : s.size ≤ 140737488351232) (w1 : (Lit.int .i64 cut).wf = true) (w2 : (Lit.int .i64 at_).wf = true) : ∃ n, m_suturelaw1_PlaceLines n s cut at_ = some true := by
  refine ⟨7, ?_⟩
  unfold m_suturelaw1_PlaceLines
  rw [wrap_id (x := (s.size : Int) + 1) (by omega) (by omega)]
  obtain ⟨k, hk, hk2⟩ := pick_eq 7 cut ((s.size : Int) + 1) (by omega) (by omega)
  obtain ⟨i, hi, hi2⟩ := pick_eq 7 at_ ((s.size : Int) + 1) (by omega) (by omega)
  have hmax := maxLen_le
  have e53 : (2 : Nat) ^ 53 = 9007199254740992 := rfl
  simp only [hk, hi, Option.bind_some]
  have l1 : (s.extract (Int.toNat 0) (Int.toNat (k : Int))).data.toList = s.data.toList.take k := by rw [extract_list]; simp
  have l2 : (s.extract (Int.toNat (k : Int)) (Int.toNat (s.size : Int))).data.toList = s.data.toList.drop k := by
    rw [extract_list]
    simp only [Int.toNat_natCast]
    rw [List.take_of_length_le (by rw [List.length_drop, ← size_list]; exact Nat.le_refl _)]
  have z1 : (s.extract (Int.toNat 0) (Int.toNat (k : Int))).size = k := by rw [size_list, l1, List.length_take, ← size_list]; omega
  have z2 : (s.extract (Int.toNat (k : Int)) (Int.toNat (s.size : Int))).size = s.size - k := by rw [size_list, l2, List.length_drop, ← size_list]
  have zc : (⟨#[10]⟩ : ByteArray).size = 1 := rfl
  have lc : (⟨#[10]⟩ : ByteArray).data.toList = [10] := rfl
  have z3 : ((s.extract (Int.toNat 0) (Int.toNat (k : Int))) ++ (⟨#[10]⟩ : ByteArray)).size = k + 1 := by
    rw [size_list, list_append, List.length_append, ← size_list, ← size_list, z1, zc]
  rw [must_eq (by simp only [Bool.and_eq_true, decide_eq_true_eq]; omega), must_eq (by simp only [decide_eq_true_eq, z1, zc]; omega), must_eq (by simp only [Bool.and_eq_true, decide_eq_true_eq]; omega), must_eq (by simp only [decide_eq_true_eq, z3, z2]; omega)]
  generalize hT : ((s.extract (Int.toNat 0) (Int.toNat (k : Int))) ++ (⟨#[10]⟩ : ByteArray)) ++ (s.extract (Int.toNat (k : Int)) (Int.toNat (s.size : Int))) = T
  have lT : T.data.toList = s.data.toList.take k ++ 10 :: s.data.toList.drop k := by
    rw [← hT, list_append, list_append, l1, l2, lc, List.append_assoc]; rfl
  have zT : T.size = s.size + 1 := by
    rw [size_list, lT, List.length_append, List.length_cons, List.length_take, List.length_drop, ← size_list]; omega
  have ha := of_eq 7 s i (by omega) (by omega)
  simp only [ha, Option.bind_some, kn, flo]
  have hlen : (s.data.toList.take k).length = k := by rw [List.length_take, ← size_list]; omega
  have ba := small_list (l := s.data.toList.take i) (by rw [List.length_take, ← size_list]; omega)
  by_cases hik : i < k
  · rw [decide_eq_true (show (i : Int) < (k : Int) by omega)]
    have hb := of_eq 7 T i (by omega) (by omega)
    have : T.data.toList.take i = s.data.toList.take i := by
      rw [lT, List.take_append_of_le_length (by omega), List.take_take, Nat.min_eq_left (by omega)]
    rw [this] at hb
    simp only [cond_true, hb, Option.bind_some]
    rw [cplx_F _ _ _ _ (by omega) (by omega) (by omega) (by omega)]
    simp
  · rw [decide_eq_false (show ¬ (i : Int) < (k : Int) by omega)]
    have hsum : IntKind.wrap .i64 ((i : Int) + 1) = ((i + 1 : Nat) : Int) := by rw [wrap_id (by omega) (by omega)]; omega
    have hb := of_eq 7 T (i + 1) (by omega) (by omega)
    have hc := of_eq 7 s k (by omega) (by omega)
    simp only [cond_false, hsum, hb, hc, Option.bind_some]
    -- the three places
    have e1 : s.data.toList.take i = s.data.toList.take k ++ (s.data.toList.drop k).take (i - k) := by
      conv => lhs; rw [show i = k + (i - k) by omega]
      rw [List.take_add]
    have e2 : T.data.toList.take (i + 1) = s.data.toList.take k ++ 10 :: (s.data.toList.drop k).take (i - k) := by
      rw [lT, List.take_append, hlen, show i + 1 - k = (i - k) + 1 by omega, List.take_succ_cons, List.take_of_length_le (by omega)]
    have bc := small_list (l := s.data.toList.take k) (by omega)
    have bb := small_list (l := T.data.toList.take (i + 1)) (by rw [List.length_take, ← size_list]; omega)
    have hA : pos (s.data.toList.take i) = from_ (pos (s.data.toList.take k)) ((s.data.toList.drop k).take (i - k)) := by rw [e1, pos_append]
    have hB : pos (T.data.toList.take (i + 1)) = from_ ((pos (s.data.toList.take k)).1 + 1, 1) ((s.data.toList.drop k).take (i - k)) := by
      rw [e2, pos_append, from_cons]
      rfl
    have fA := from_pos (pos (s.data.toList.take k)) ((s.data.toList.drop k).take (i - k))
    have fB := from_pos ((pos (s.data.toList.take k)).1 + 1, 1) ((s.data.toList.drop k).take (i - k))
    have bu := bounds_pos ((s.data.toList.drop k).take (i - k))
    rw [← hA] at fA
    rw [← hB] at fB
    generalize pos ((s.data.toList.drop k).take (i - k)) = u at *
    generalize pos (s.data.toList.take i) = A at *
    generalize pos (T.data.toList.take (i + 1)) = B at *
    generalize pos (s.data.toList.take k) = C at *
    rw [eqF (by omega) (by omega), one_F, zero_F]
    by_cases h1 : u.1 = 1
    · have fA := fA.1 h1
      have fB := fB.1 h1
      have hAC : A.1 = C.1 := by rw [fA]
      have hA2 : A.2 = C.2 + u.2 - 1 := by rw [fA]
      have hB1 : B.1 = C.1 + 1 := by rw [fB]
      have hB2 : B.2 = 1 + u.2 - 1 := by rw [fB]
      rw [decide_eq_true hAC]
      simp only [cond_true]
      rw [subF (by omega) (by omega) (by omega), Option.bind_some, subF (by omega) (by omega) (by omega), Option.bind_some, addF (by omega) (by omega) (by omega), Option.bind_some, addF (by omega) (by omega) (by omega), Option.bind_some, addF (by omega) (by omega) (by omega), Option.bind_some]
      rw [cplx_F _ _ _ _ (by omega) (by omega) (by omega) (by omega)]
      simp only [Option.some.injEq, decide_eq_true_eq]
      omega
    · have fA := fA.2 h1
      have fB := fB.2 h1
      have hA1 : A.1 = C.1 + u.1 - 1 := by rw [fA]
      have hA2 : A.2 = u.2 := by rw [fA]
      have hB1 : B.1 = C.1 + 1 + u.1 - 1 := by rw [fB]
      have hB2 : B.2 = u.2 := by rw [fB]
      rw [decide_eq_false (by omega)]
      simp only [cond_false, cond_true]
      rw [addF (by omega) (by omega) (by omega), Option.bind_some, addF (by omega) (by omega) (by omega), Option.bind_some]
      rw [cplx_F _ _ _ _ (by omega) (by omega) (by omega) (by omega)]
      simp only [Option.some.injEq, decide_eq_true_eq]
      omega

/-- Places rise. -/
theorem pos_lt (s : ByteArray) {i j : Nat} (h : i < j) (hj : j ≤ s.size) : (pos (s.data.toList.take i)).1 < (pos (s.data.toList.take j)).1 ∨ ((pos (s.data.toList.take i)).1 = (pos (s.data.toList.take j)).1 ∧ (pos (s.data.toList.take i)).2 < (pos (s.data.toList.take j)).2) := by
  have e1 : s.data.toList.take j = s.data.toList.take i ++ (s.data.toList.drop i).take (j - i) := by
    conv => lhs; rw [show j = i + (j - i) by omega]
    rw [List.take_add]
  rw [e1, pos_append]
  refine rises _ _ ?_ (bounds_pos _).2.2.1
  intro h0
  have := congrArg List.length h0
  rw [List.length_take, List.length_drop, ← size_list] at this
  simp only [List.length_nil] at this
  omega

theorem pos_inj (s : ByteArray) {i j : Nat} (hi : i ≤ s.size) (hj : j ≤ s.size) : ((pos (s.data.toList.take i)).1 = (pos (s.data.toList.take j)).1 ∧ (pos (s.data.toList.take i)).2 = (pos (s.data.toList.take j)).2) ↔ i = j := by
  constructor
  · intro h
    rcases Nat.lt_trichotomy i j with hh | hh | hh
    · have := pos_lt s hh hj; omega
    · exact hh
    · have := pos_lt s hh hi; omega
  · rintro rfl; exact ⟨rfl, rfl⟩

theorem back_loop (n : Nat) (s : ByteArray) (hs : s.size ≤ 140737488351232) (i : Nat) (hi : i ≤ s.size) : ∀ (m at_ : Nat), at_ ≤ i → i < at_ + m →
    l_place_Back_2 n m (s, (F (pos (s.data.toList.take i)).1, F (pos (s.data.toList.take i)).2), (s.size : Int) + 1, (at_ : Int)) = some (Sum.inl ((i : Int), true))
  | 0, at_, h1, h2 => by omega
  | m + 1, at_, h1, h2 => by
    have bi := small_list (l := s.data.toList.take i) (by rw [List.length_take, ← size_list]; omega)
    have ba := small_list (l := s.data.toList.take at_) (by rw [List.length_take, ← size_list]; omega)
    have e53 : (2 : Nat) ^ 53 = 9007199254740992 := rfl
    unfold l_place_Back_2 l_place_Back_2_B
    simp only [of_eq n s at_ (by omega) (by omega), Option.bind_some]
    rw [decide_eq_true (by omega), cplx_F _ _ _ _ (by omega) (by omega) (by omega) (by omega)]
    simp only [cond_true]
    by_cases h : at_ = i
    · subst h; simp
    · have : ¬ ((pos (s.data.toList.take at_)).1 = (pos (s.data.toList.take i)).1 ∧ (pos (s.data.toList.take at_)).2 = (pos (s.data.toList.take i)).2) := fun hh => h ((pos_inj s (by omega) hi).1 hh)
      rw [decide_eq_false this]
      simp only [cond_false]
      rw [wrap_id (by omega) (by omega)]
      exact back_loop n s hs i hi m (at_ + 1) (by omega) (by omega)

theorem back_eq (n : Nat) (s : ByteArray) (hs : s.size ≤ 140737488351232) (i : Nat) (hi : i ≤ s.size) (hn : i < n) :
    m_place_Back n s (F (pos (s.data.toList.take i)).1, F (pos (s.data.toList.take i)).2) = some ((i : Int), true) := by
  unfold m_place_Back
  rw [wrap_id (by omega) (by omega)]
  have := back_loop n s hs i hi n 0 (by omega) (by omega)
  rw [show ((0 : Nat) : Int) = 0 from rfl] at this
  rw [this]
  rfl

theorem less_eq (n : Nat) (s : ByteArray) (hs : s.size ≤ 140737488351232) (i j : Nat) (hi : i ≤ s.size) (hj : j ≤ s.size) :
    m_place_Less n (F (pos (s.data.toList.take i)).1, F (pos (s.data.toList.take i)).2) (F (pos (s.data.toList.take j)).1, F (pos (s.data.toList.take j)).2) = some (decide (i < j)) := by
  have bi := small_list (l := s.data.toList.take i) (by rw [List.length_take, ← size_list]; omega)
  have bj := small_list (l := s.data.toList.take j) (by rw [List.length_take, ← size_list]; omega)
  have e53 : (2 : Nat) ^ 53 = 9007199254740992 := rfl
  unfold m_place_Less
  simp only [bne, eqF (a := (pos (s.data.toList.take i)).1) (b := (pos (s.data.toList.take j)).1) (by omega) (by omega), ltF (a := (pos (s.data.toList.take i)).1) (b := (pos (s.data.toList.take j)).1) (by omega) (by omega), ltF (a := (pos (s.data.toList.take i)).2) (b := (pos (s.data.toList.take j)).2) (by omega) (by omega)]
  rcases Nat.lt_trichotomy i j with h | h | h
  · have := pos_lt s h hj
    rw [decide_eq_true h]
    by_cases h1 : (pos (s.data.toList.take i)).1 = (pos (s.data.toList.take j)).1
    · rw [decide_eq_true h1]
      simp only [Bool.not_true, cond_false]
      rw [decide_eq_true (by omega)]
    · rw [decide_eq_false h1]
      simp only [Bool.not_false, cond_true]
      rw [decide_eq_true (by omega)]
  · subst h
    simp
  · have := pos_lt s h hi
    rw [decide_eq_false (show ¬ i < j by omega)]
    by_cases h1 : (pos (s.data.toList.take i)).1 = (pos (s.data.toList.take j)).1
    · rw [decide_eq_true h1]
      simp only [Bool.not_true, cond_false]
      rw [decide_eq_false (by omega)]
    · rw [decide_eq_false h1]
      simp only [Bool.not_false, cond_true]
      rw [decide_eq_false (by omega)]

theorem placeApart (s : ByteArray) (a b : Int) (hs : s.size ≤ 140737488351232) (w1 : (Lit.int .i64 a).wf = true) (w2 : (Lit.int .i64 b).wf = true) : ∃ n, m_suturelaw1_PlaceApart n s a b = some true := by
  refine ⟨s.size + 1, ?_⟩
  unfold m_suturelaw1_PlaceApart
  rw [wrap_id (x := (s.size : Int) + 1) (by omega) (by omega)]
  obtain ⟨i, hi, hi2⟩ := pick_eq (s.size + 1) a ((s.size : Int) + 1) (by omega) (by omega)
  obtain ⟨j, hj, hj2⟩ := pick_eq (s.size + 1) b ((s.size : Int) + 1) (by omega) (by omega)
  have bi := small_list (l := s.data.toList.take i) (by rw [List.length_take, ← size_list]; omega)
  have bj := small_list (l := s.data.toList.take j) (by rw [List.length_take, ← size_list]; omega)
  have e53 : (2 : Nat) ^ 53 = 9007199254740992 := rfl
  simp only [hi, hj, of_eq (s.size + 1) s i (by omega) (by omega), of_eq (s.size + 1) s j (by omega) (by omega), Option.bind_some, back_eq (s.size + 1) s hs i (by omega) (by omega), kn, less_eq (s.size + 1) s hs i j (by omega) (by omega), less_eq (s.size + 1) s hs j i (by omega) (by omega)]
  rw [cplx_F _ _ _ _ (by omega) (by omega) (by omega) (by omega)]
  have h1 : decide ((pos (s.data.toList.take i)).1 = (pos (s.data.toList.take j)).1 ∧ (pos (s.data.toList.take i)).2 = (pos (s.data.toList.take j)).2) = ((i : Int) == (j : Int)) := by
    rw [decide_eq_decide.2 (pos_inj s (by omega) (by omega))]
    by_cases h : i = j
    · subst h; simp
    · rw [decide_eq_false h]; symm; rw [beq_eq_false_iff_ne]; omega
  have h2 : decide ((i : Int) < (j : Int)) = decide (i < j) := decide_eq_decide.2 (by omega)
  have h3 : decide ((j : Int) < (i : Int)) = decide (j < i) := decide_eq_decide.2 (by omega)
  simp [h1, h2, h3]

end Go.Proofs.YtkolhagejiabhaaDoor.W
