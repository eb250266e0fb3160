/- Numerals in plain Lean: what strconv's Atoi and Itoa, one behind the other, come to on digits. -/
import Derived.Test.YtkolhagejiabhaaDoorExt
namespace Go.Proofs.YtkolhagejiabhaaDoor.W
open Go Go.Eng
set_option linter.unusedVariables false
set_option linter.unusedSimpArgs false

def isD (c : UInt8) : Bool := decide (48 ≤ c.toNat) && decide (c.toNat ≤ 57)
def isL (c : UInt8) : Bool := decide (97 ≤ c.toNat) && decide (c.toNat ≤ 122)
theorem isD_iff {c : UInt8} : isD c = true ↔ 48 ≤ c.toNat ∧ c.toNat ≤ 57 := by simp [isD]

/-- What digits spell, behind what others did. -/
def valF (a : Nat) (w : List UInt8) : Nat := w.foldl (fun a c => 10 * a + (c.toNat - 48)) a
def val (w : List UInt8) : Nat := valF 0 w
theorem valF_nil (a : Nat) : valF a [] = a := by simp only [valF, List.foldl_nil]
theorem valF_cons (a : Nat) (c : UInt8) (r : List UInt8) : valF a (c :: r) = valF (10 * a + (c.toNat - 48)) r := by simp only [valF, List.foldl_cons]

theorem valF_le (w : List UInt8) : ∀ (a : Nat), a ≤ valF a w := by
  induction w with
  | nil => intro a; exact Nat.le_refl _
  | cons c r ih =>
    intro a
    have := ih (10 * a + (c.toNat - 48))
    rw [valF_cons]
    omega
theorem valF_append (u v : List UInt8) (a : Nat) : valF a (u ++ v) = valF (valF a u) v := List.foldl_append

theorem parse_digits : ∀ (w : List UInt8) (a : Nat), (∀ c ∈ w, isD c = true) → a < 18446744073709551616 →
    Lib.parseUint10 a w = if valF a w < 18446744073709551616 then .ok (valF a w) else .range
  | [], a, _, ha => by rw [valF_nil, if_pos ha]; rfl
  | c :: r, a, hd, ha => by
    have hc := isD_iff.1 (hd c (by simp))
    have hle := valF_le r (10 * a + (c.toNat - 48))
    have e : a * 10 + (c.toNat - 48) = 10 * a + (c.toNat - 48) := by omega
    rw [valF_cons, Lib.parseUint10, if_pos hc, e]
    by_cases h1 : 1844674407370955162 ≤ a
    · rw [if_pos h1, if_neg (by omega)]
    · rw [if_neg h1]
      by_cases h2 : 18446744073709551616 ≤ 10 * a + (c.toNat - 48)
      · rw [if_pos h2, if_neg (by omega)]
      · rw [if_neg h2]
        exact parse_digits r _ (fun x hx => hd x (by simp [hx])) (by omega)

theorem atoi_digits {a : ByteArray} (h0 : a.data.toList ≠ []) (hd : ∀ c ∈ a.data.toList, isD c = true) (hs : a.size ≤ 281474976710656) :
    atoiM a = some (if val a.data.toList < 9223372036854775808 then (val a.data.toList : Int) else 9223372036854775807) := by
  unfold atoiM
  rw [decide_eq_true hs, cond_true]
  generalize hw : a.data.toList = w at *
  cases w with
  | nil => exact absurd rfl h0
  | cons c r =>
    have hc := isD_iff.1 (hd c (by simp))
    have h43 : ¬ (c.toNat = 43 ∨ c.toNat = 45) := by omega
    have h45 : ¬ c.toNat = 45 := by omega
    have hp : Lib.parseMag (c :: r) = if val (c :: r) < 18446744073709551616 then .ok (val (c :: r)) else .range := by
      unfold Lib.parseMag
      rw [if_neg (by simp)]
      exact parse_digits (c :: r) 0 hd (by omega)
    have hall : Lib.atoiAll (c :: r) = if val (c :: r) < 9223372036854775808 then .ok ((val (c :: r) : Nat) : Int) else .range := by
      unfold Lib.atoiAll
      simp only [if_neg h43, hp]
      by_cases h1 : val (c :: r) < 9223372036854775808
      · rw [if_pos (show val (c :: r) < 18446744073709551616 by omega), if_pos h1]
        simp only [h45, not_false_eq_true, true_and, false_and, if_false]
        rw [if_neg (by omega)]
      · rw [if_neg h1]
        by_cases h2 : val (c :: r) < 18446744073709551616
        · rw [if_pos h2]
          simp only [h45, not_false_eq_true, true_and, false_and, if_false]
          rw [if_pos (by omega)]
        · rw [if_neg h2]
    rw [hall]
    by_cases h1 : val (c :: r) < 9223372036854775808
    · rw [if_pos h1]; simp only [if_pos h1]
    · rw [if_neg h1]; simp only [if_neg h1]
      have : Lib.atoiSat (c :: r) = 9223372036854775807 := by
        unfold Lib.atoiSat
        rw [if_neg (by simpa using h45)]
      rw [this]

theorem itoa_nat {u : Nat} (h : u ≤ 9223372036854775807) : itoaM (u : Int) = some ⟨(Lib.decDigits u).toArray⟩ := by
  unfold itoaM
  have e20 : (10 : Nat) ^ 20 = 100000000000000000000 := rfl
  have h1 : (decide (-9223372036854775808 ≤ (u : Int)) && decide ((u : Int) ≤ 9223372036854775807)) = true := by
    simp only [Bool.and_eq_true, decide_eq_true_eq]; omega
  rw [h1, cond_true, decide_eq_false (show ¬ (u : Int) < 0 by omega), cond_false, Int.toNat_natCast, digs_eq _ _ (by omega) (by omega)]

theorem ofNat_digit {c : UInt8} (h : isD c = true) : UInt8.ofNat (48 + (c.toNat - 48)) = c := by
  have := isD_iff.1 h
  apply UInt8.toNat_inj.1
  rw [UInt8.toNat_ofNat']
  omega
theorem digit_ofNat {d : Nat} (h : d < 10) : (UInt8.ofNat (48 + d)).toNat = 48 + d := by
  rw [UInt8.toNat_ofNat']
  omega

/-- A numeral as Go writes it. -/
def plainNum (w : List UInt8) : Bool := w == [48] || w.head?.any (fun c => c != 48)

theorem dec_val_n : ∀ (n : Nat) (w : List UInt8), w.length = n → w ≠ [] → (∀ c ∈ w, isD c = true) → plainNum w = true → Lib.decDigits (val w) = w := by
  intro n
  induction n with
  | zero => intro w hl h; exact absurd (List.length_eq_zero_iff.1 hl) h
  | succ n ih0 =>
    intro w hl h0 hd hp
    rcases List.eq_nil_or_concat w with h | ⟨u, c, h⟩
    · exact absurd h h0
    subst h
    rw [List.concat_eq_append] at *
    have ih := ih0 u (by simpa using hl)
    have hc := isD_iff.1 (hd c (by simp))
    have hv : val (u ++ [c]) = 10 * val u + (c.toNat - 48) := by unfold val; rw [valF_append, valF_cons, valF_nil]
    cases u with
    | nil =>
      rw [hv]
      have : 10 * val [] + (c.toNat - 48) < 10 := by simp only [val, valF_nil]; omega
      rw [Lib.decDigits_one this]
      simp only [val, valF_nil, List.nil_append]
      rw [show 48 + (10 * 0 + (c.toNat - 48)) = 48 + (c.toNat - 48) by omega, ofNat_digit (hd c (by simp))]
    | cons a r =>
      have ha : a ≠ 48 := by
        have h1 : (a :: r ++ [c] == [48]) = false := by
          rw [beq_eq_false_iff_ne]; intro hh
          have := congrArg List.length hh
          simp at this
        simp only [List.cons_append] at h1
        simp only [plainNum, h1, Bool.false_or, List.cons_append, List.head?_cons, Option.any_some, bne_iff_ne, ne_eq] at hp
        exact hp
      have hda := isD_iff.1 (hd a (by simp))
      have hpu : plainNum (a :: r) = true := by simp [plainNum, ha]
      have ihu := ih (by simp) (fun x hx => hd x (by simp only [List.mem_append]; exact .inl hx)) hpu
      have hpos : 1 ≤ val (a :: r) := by
        have h1 := valF_le r (10 * 0 + (a.toNat - 48))
        have h2 : val (a :: r) = valF (10 * 0 + (a.toNat - 48)) r := by unfold val; rw [valF_cons]
        have h3 : a.toNat ≠ 48 := fun hh => ha (UInt8.toNat_inj.1 (by rw [hh]; rfl))
        omega
      rw [hv, Lib.decDigits, dif_neg (by omega)]
      rw [show (10 * val (a :: r) + (c.toNat - 48)) / 10 = val (a :: r) by omega, show (10 * val (a :: r) + (c.toNat - 48)) % 10 = c.toNat - 48 by omega, ihu, ofNat_digit (hd c (by simp))]

theorem dec_val (w : List UInt8) : w ≠ [] → (∀ c ∈ w, isD c = true) → plainNum w = true → Lib.decDigits (val w) = w := dec_val_n _ w rfl

theorem val_dec (u : Nat) : val (Lib.decDigits u) = u ∧ (∀ c ∈ Lib.decDigits u, isD c = true) ∧ Lib.decDigits u ≠ [] ∧ plainNum (Lib.decDigits u) = true := by
  induction u using Nat.strongRecOn with
  | ind u ih =>
    by_cases h : u < 10
    · rw [Lib.decDigits_one h]
      refine ⟨?_, ?_, by simp, ?_⟩
      · unfold val
        rw [valF_cons, valF_nil, digit_ofNat h]; omega
      · intro c hc
        simp only [List.mem_singleton] at hc
        rw [hc, isD_iff, digit_ofNat h]; omega
      · by_cases h0 : u = 0
        · subst h0; rfl
        · have : UInt8.ofNat (48 + u) ≠ 48 := by
            intro hh
            have := congrArg UInt8.toNat hh
            rw [digit_ofNat h] at this
            have e : (48 : UInt8).toNat = 48 := rfl
            omega
          simp only [plainNum, List.head?_cons, Option.any_some, Bool.or_eq_true, bne_iff_ne, ne_eq]; exact .inr this
    · obtain ⟨h1, h2, h3, h4⟩ := ih (u / 10) (by omega)
      rw [Lib.decDigits, dif_neg h]
      refine ⟨?_, ?_, by simp, ?_⟩
      · unfold val at h1 ⊢
        rw [valF_append, h1, valF_cons, valF_nil, digit_ofNat (by omega)]; omega
      · intro c hc
        simp only [List.mem_append, List.mem_singleton] at hc
        rcases hc with hc | hc
        · exact h2 c hc
        · rw [hc, isD_iff, digit_ofNat (by omega)]; omega
      · cases hw : Lib.decDigits (u / 10) with
        | nil => exact absurd hw h3
        | cons a r =>
          rw [hw] at h4
          have ha : a ≠ 48 := by
            intro ha
            subst ha
            simp only [plainNum, List.head?_cons, Option.any_some, bne_self_eq_false, Bool.or_false, beq_iff_eq] at h4
            have : u / 10 = 0 := by
              rw [hw, h4] at h1
              exact h1.symm
            omega
          simp [plainNum, ha]

/-- There and back: a numeral as Go writes it, that is not too great. -/
theorem there_back {a : ByteArray} (h0 : a.data.toList ≠ []) (hd : ∀ c ∈ a.data.toList, isD c = true) (hs : a.size ≤ 281474976710656) :
    ∃ (v : Nat) (b : ByteArray), atoiM a = some (v : Int) ∧ itoaM (v : Int) = some b ∧
      (b.data.toList == a.data.toList) = (plainNum a.data.toList && decide (val a.data.toList < 9223372036854775808)) ∧ (val a.data.toList < 9223372036854775808 → v = val a.data.toList) := by
  have h1 := atoi_digits h0 hd hs
  by_cases h : val a.data.toList < 9223372036854775808
  · rw [if_pos h] at h1
    refine ⟨_, _, h1, itoa_nat (by omega), ?_, fun _ => rfl⟩
    rw [decide_eq_true h, Bool.and_true]
    apply Bool.eq_iff_iff.2
    rw [beq_iff_eq]
    constructor
    · intro hh
      have := (val_dec (val a.data.toList)).2.2.2
      rw [← hh]; exact this
    · intro hh
      exact dec_val _ h0 hd hh
  · rw [if_neg h] at h1
    refine ⟨9223372036854775807, _, h1, itoa_nat (by omega), ?_, fun hh => absurd hh h⟩
    rw [decide_eq_false h, Bool.and_false, beq_eq_false_iff_ne]
    intro hh
    have h2 := (val_dec 9223372036854775807).1
    have h3 : val a.data.toList = 9223372036854775807 := by rw [← h2, ← hh]
    omega
end Go.Proofs.YtkolhagejiabhaaDoor.W
