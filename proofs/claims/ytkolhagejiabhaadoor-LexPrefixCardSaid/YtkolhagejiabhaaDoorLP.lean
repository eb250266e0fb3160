/- Places of a text's bytes, in plain Lean: lines and columns, and what the printed functions of chapter 1 come to. -/
import Derived.Test.YtkolhagejiabhaaDoorL
import Derived.Test.YtkolhagejiabhaaDoorEngFl
namespace Go.Proofs.YtkolhagejiabhaaDoor.W
open Go Go.Eng Go.Eng.Fl
set_option linter.unusedVariables false
set_option linter.unusedSimpArgs false

/-- One byte on. -/
def step (p : Int × Int) (b : UInt8) : Int × Int := if b = 10 then (p.1 + 1, 1) else (p.1, p.2 + 1)
def from_ (p : Int × Int) (u : List UInt8) : Int × Int := u.foldl step p
def pos (u : List UInt8) : Int × Int := from_ (1, 1) u

theorem pos_append (u v : List UInt8) : pos (u ++ v) = from_ (pos u) v := by simp [pos, from_]
theorem from_cons (p : Int × Int) (b : UInt8) (u : List UInt8) : from_ p (b :: u) = from_ (step p b) u := rfl

theorem bounds_from : ∀ (u : List UInt8) (p : Int × Int), p.1 ≤ (from_ p u).1 ∧ (from_ p u).1 ≤ p.1 + u.length ∧ (1 ≤ p.2 → 1 ≤ (from_ p u).2) ∧ (1 ≤ p.2 → (from_ p u).2 ≤ p.2 + u.length)
  | [], p => by simp [from_]
  | b :: u, p => by
    rw [from_cons]
    have := bounds_from u (step p b)
    by_cases hb : b = 10
    · have hs : step p b = (p.1 + 1, 1) := by simp [step, hb]
      rw [hs] at this ⊢
      simp only [List.length_cons] at *
      omega
    · have hs : step p b = (p.1, p.2 + 1) := by simp [step, hb]
      rw [hs] at this ⊢
      simp only [List.length_cons] at *
      omega

theorem bounds_pos (u : List UInt8) : 1 ≤ (pos u).1 ∧ (pos u).1 ≤ 1 + u.length ∧ 1 ≤ (pos u).2 ∧ (pos u).2 ≤ 1 + u.length := by
  have := bounds_from u (1, 1)
  unfold pos
  omega

/-- From any place on. -/
theorem from_shift : ∀ (u : List UInt8) (p : Int × Int) (d : Int), (from_ (p.1 + d, p.2) u).1 = (from_ p u).1 + d ∧ (from_ (p.1 + d, p.2) u).2 = (from_ p u).2
  | [], p, d => by simp [from_]
  | b :: u, p, d => by
    rw [from_cons, from_cons]
    by_cases hb : b = 10
    · have h1 : step (p.1 + d, p.2) b = ((step p b).1 + d, (step p b).2) := by simp [step, hb]; omega
      rw [h1]
      exact from_shift u (step p b) d
    · have h1 : step (p.1 + d, p.2) b = ((step p b).1 + d, (step p b).2) := by simp [step, hb]
      rw [h1]
      exact from_shift u (step p b) d

theorem from_col : ∀ (u : List UInt8) (p : Int × Int) (d : Int), ((from_ p u).1 = p.1 → from_ (p.1, p.2 + d) u = ((from_ p u).1, (from_ p u).2 + d)) ∧ ((from_ p u).1 ≠ p.1 → from_ (p.1, p.2 + d) u = from_ p u)
  | [], p, d => by simp [from_]
  | b :: u, p, d => by
    rw [from_cons, from_cons]
    by_cases hb : b = 10
    · have h1 : step (p.1, p.2 + d) b = step p b := by simp [step, hb]
      rw [h1]
      have hs : (step p b).1 = p.1 + 1 := by simp [step, hb]
      have := (bounds_from u (step p b)).1
      exact ⟨fun h => by omega, fun _ => rfl⟩
    · have h1 : step (p.1, p.2 + d) b = ((step p b).1, (step p b).2 + d) := by simp [step, hb]; omega
      have hs : (step p b).1 = p.1 := by simp [step, hb]
      rw [h1, ← hs]
      exact from_col u (step p b) d

/-- Places are added. -/
theorem from_pos (p : Int × Int) (u : List UInt8) : ((pos u).1 = 1 → from_ p u = (p.1, p.2 + (pos u).2 - 1)) ∧ ((pos u).1 ≠ 1 → from_ p u = (p.1 + (pos u).1 - 1, (pos u).2)) := by
  have h1 := from_col u (1, 1) (p.2 - 1)
  have h2 := from_shift u (1, p.2) (p.1 - 1)
  simp only at h1 h2
  have e1 : (1 : Int) + (p.2 - 1) = p.2 := by omega
  have e2 : (1 : Int) + (p.1 - 1) = p.1 := by omega
  rw [e1] at h1
  rw [e2] at h2
  have e3 : from_ p u = ((from_ (1, p.2) u).1 + (p.1 - 1), (from_ (1, p.2) u).2) := Prod.ext h2.1 h2.2
  constructor
  · intro h
    rw [e3, h1.1 h]
    have : (from_ (1, 1) u).1 = 1 := h
    refine Prod.ext ?_ ?_
    · show (from_ (1, 1) u).1 + _ = _
      rw [this]; simp only; omega
    · show (from_ (1, 1) u).2 + _ = _
      show _ = p.2 + (from_ (1, 1) u).2 - 1
      omega
  · intro h
    rw [e3, h1.2 h]
    refine Prod.ext ?_ rfl
    show (from_ (1, 1) u).1 + _ = p.1 + (from_ (1, 1) u).1 - 1
    omega

/-- They rise. -/
theorem rises (p : Int × Int) (u : List UInt8) (hu : u ≠ []) (hp : 1 ≤ p.2) : p.1 < (from_ p u).1 ∨ (p.1 = (from_ p u).1 ∧ p.2 < (from_ p u).2) := by
  have key : ∀ (u : List UInt8) (p : Int × Int), (from_ p u).1 = p.1 → (from_ p u).2 = p.2 + u.length := by
    intro u
    induction u with
    | nil => intro p _; simp [from_]
    | cons b u ih =>
      intro p h
      rw [from_cons] at h ⊢
      by_cases hb : b = 10
      · have hs : (step p b).1 = p.1 + 1 := by simp [step, hb]
        have := (bounds_from u (step p b)).1
        omega
      · have hs : step p b = (p.1, p.2 + 1) := by simp [step, hb]
        rw [hs] at h ⊢
        have := ih _ h
        simp only [List.length_cons] at *
        omega
  have h1 := (bounds_from u p).1
  by_cases h : (from_ p u).1 = p.1
  · right
    have := key u p h
    have hl : 0 < u.length := List.length_pos_iff.2 hu
    omega
  · left; omega

/-! the library's count and last place -/

theorem count_pos : ∀ (u : List UInt8) (p : Int × Int), (from_ p u).1 = p.1 + (u.count 10 : Nat)
  | [], p => by simp [from_]
  | b :: u, p => by
    rw [from_cons, count_pos u]
    by_cases hb : b = 10
    · simp [step, hb]; omega
    · simp [step, hb]

theorem last_pos (e : ByteArray) : ∀ k : Nat, k ≤ e.data.toList.length → (k : Int) - Lib.lastIdx e 10 k = (pos (e.data.toList.take k)).2
  | 0, _ => by simp [Lib.lastIdx, pos, from_]
  | k + 1, hk => by
    have ih := last_pos e k (by omega)
    have hlt : k < e.data.toList.length := by omega
    rw [List.take_add_one, List.getElem?_eq_getElem hlt, pos_append]
    have hb : e.data[k]! = e.data.toList[k] := by
      have : k < e.data.size := by simpa using hlt
      rw [getElem!_pos e.data k this]
      simp
    unfold Lib.lastIdx
    rw [hb]
    simp only [Option.toList_some]
    by_cases h : e.data.toList[k] = 10
    · have h1 : ((e.data.toList[k]).toNat : Int) = 10 := by rw [h]; rfl
      rw [if_pos h1]
      simp only [from_, List.foldl_cons, List.foldl_nil, step, h, if_true]
      omega
    · have h1 : ¬ ((e.data.toList[k]).toNat : Int) = 10 := by
        intro hh
        apply h
        have : (e.data.toList[k]).toNat = 10 := by omega
        exact UInt8.toNat_inj.1 (by rw [this]; rfl)
      rw [if_neg h1]
      simp only [from_, List.foldl_cons, List.foldl_nil, step, h, if_false]
      omega

theorem wrap_id {x : Int} (h1 : -9223372036854775808 ≤ x) (h2 : x ≤ 9223372036854775807) : IntKind.wrap .i64 x = x := by
  have e : ∀ x : Int, IntKind.wrap .i64 x = if x % 18446744073709551616 ≥ 9223372036854775808 then x % 18446744073709551616 - 18446744073709551616 else x % 18446744073709551616 := by
    intro x
    show (if (true && decide (x % (2 ^ 64 : Int) ≥ (2 ^ 63 : Int))) = true then x % (2 ^ 64 : Int) - (2 ^ 64 : Int) else x % (2 ^ 64 : Int)) = _
    simp only [Bool.true_and, decide_eq_true_eq]
    rfl
  rw [e]
  split <;> omega

theorem ite_clamp (z k : Int) (hz : 0 ≤ z) : (if (0 : Int) < (if z < k then z else k) then (if z < k then z else k) else 0) = max 0 (min z k) := by
  by_cases h : z < k
  · rw [if_pos h]; omega
  · rw [if_neg h]; omega

theorem extract_list (s : ByteArray) (i k : Nat) : (s.extract i k).data.toList = (s.data.toList.drop i).take (k - i) := by
  rw [ByteArray.data_extract]
  simp [List.extract_eq_take_drop]

theorem size_list (s : ByteArray) : s.size = s.data.toList.length := by rw [Array.length_toList]; rfl

theorem must_eq {R : Type} {c φ : Bool} {r : Option R} (h : φ = true) : must c φ r = r := by rw [h]; cases c <;> rfl

/-- What Of comes to. -/
theorem of_eq (n : Nat) (s : ByteArray) (k : Nat) (hs : s.size ≤ 281474976710656) (hk : k ≤ s.size) :
    m_place_Of n s k = some (F (pos (s.data.toList.take k)).1, F (pos (s.data.toList.take k)).2) := by
  unfold m_place_Of
  rw [ite_clamp _ _ (by omega)]
  have e0 : max 0 (min ((s.size : Nat) : Int) (k : Int)) = (k : Int) := by omega
  rw [e0]
  rw [must_eq (by simp only [Bool.and_eq_true, decide_eq_true_eq]; omega)]
  have hl : (s.extract (Int.toNat 0) (Int.toNat (k : Int))).data.toList = s.data.toList.take k := by
    rw [extract_list]; simp
  have hsz : (s.extract (Int.toNat 0) (Int.toNat (k : Int))).size = k := by
    rw [size_list, hl, List.length_take, ← size_list]; omega
  have hlast : Lib.lastIndexByte (s.extract (Int.toNat 0) (Int.toNat (k : Int))) 10 = (k : Int) - (pos (s.data.toList.take k)).2 := by
    unfold Lib.lastIndexByte
    rw [hsz]
    have := last_pos (s.extract (Int.toNat 0) (Int.toNat (k : Int))) k (by rw [hl, List.length_take, ← size_list]; omega)
    rw [hl, List.take_take, Nat.min_self] at this
    omega
  have hcnt : ((Lib.countByte (s.data.toList.take k) 10 : Nat) : Int) = (pos (s.data.toList.take k)).1 - 1 := by
    unfold Lib.countByte pos
    rw [count_pos]
    simp only
    omega
  have hb := bounds_pos (s.data.toList.take k)
  rw [List.length_take] at hb
  simp only [must, Bool.not_true, Bool.and_false, cond_false, m_strings_Count, m_strings_LastIndexByte, cntM, lastM, hl]
  have hc : (⟨#[10]⟩ : ByteArray).data.toList = [10] := rfl
  simp only [hc, Option.bind_some, hsz]
  rw [decide_eq_true (show k < 4611686018427387904 by omega)]
  simp only [cond_true, Option.bind_some, hlast, hcnt]
  rw [wrap_id (by omega) (by omega), wrap_id (by omega) (by omega)]
  congr 3
  · congr 1; omega
  · congr 1; omega

theorem pick_eq (n : Nat) (a m : Int) (hm : 0 < m) (hm2 : m ≤ 4611686018427387904) : ∃ k : Nat, m_suturehand_Pick n a m = some (k : Int) ∧ (k : Int) < m := by
  unfold m_suturehand_Pick
  have h0 : (!decide (m = 0)) = true := by simp; omega
  have h1 : Int.tmod a m < m := Int.tmod_lt_of_pos a hm
  have h2 : -m < Int.tmod a m := by
    have := Int.tmod_lt_of_pos (-a) hm
    rw [Int.neg_tmod] at this
    omega
  simp only [must, h0, Bool.not_true, Bool.and_false, cond_false]
  by_cases h : Int.tmod a m < 0
  · rw [decide_eq_true h]
    refine ⟨(Int.tmod a m + m).toNat, ?_, by omega⟩
    simp only [cond_true]
    rw [wrap_id (by omega) (by omega)]
    congr 1
    omega
  · rw [decide_eq_false h]
    exact ⟨(Int.tmod a m).toNat, by simp only [cond_false]; congr 1; omega, by omega⟩

theorem small_pos {s : ByteArray} {k : Nat} (hs : s.size ≤ 281474976710656) : (pos (s.data.toList.take k)).1.natAbs < 2 ^ 53 ∧ (pos (s.data.toList.take k)).2.natAbs < 2 ^ 53 := by
  have hb := bounds_pos (s.data.toList.take k)
  rw [List.length_take, ← size_list] at hb
  have e : (2 : Nat) ^ 53 = 9007199254740992 := rfl
  omega

theorem k_eq : (FloatKind.format .f64) = (FloatKind.format .f64) := rfl

end Go.Proofs.YtkolhagejiabhaaDoor.W
