/- The document's tokens, places and numbers, in plain Lean, over this seat's printed models (from the texts of chapter 2). -/
import Derived.Test.YtgpokdaacbjimabS

namespace Go.Proofs.Ytgpokdaacbjimab.W
open Go Go.Eng
set_option linter.unusedVariables false
set_option linter.unusedSimpArgs false

/-- One byte on. -/
def step (p : Int × Int) (b : UInt8) : Int × Int := if b = 10 then (p.1 + 1, 1) else (p.1, p.2 + 1)
def from_ (p : Int × Int) (u : List UInt8) : Int × Int := u.foldl step p
def pos (u : List UInt8) : Int × Int := from_ (1, 1) u

theorem pos_append (u v : List UInt8) : pos (u ++ v) = from_ (pos u) v := by simp [pos, from_]
theorem from_cons (p : Int × Int) (b : UInt8) (u : List UInt8) : from_ p (b :: u) = from_ (step p b) u := rfl

theorem bounds_from : ∀ (u : List UInt8) (p : Int × Int), p.1 ≤ (from_ p u).1 ∧ (from_ p u).1 ≤ p.1 + u.length ∧ (1 ≤ p.2 → 1 ≤ (from_ p u).2) ∧ (1 ≤ p.2 → (from_ p u).2 ≤ p.2 + u.length)
  | [], p => by simp [from_]
  | b :: u, p => by
    rw [from_cons]
    have := bounds_from u (step p b)
    by_cases hb : b = 10
    · have hs : step p b = (p.1 + 1, 1) := by simp [step, hb]
      rw [hs] at this ⊢
      simp only [List.length_cons] at *
      omega
    · have hs : step p b = (p.1, p.2 + 1) := by simp [step, hb]
      rw [hs] at this ⊢
      simp only [List.length_cons] at *
      omega

theorem bounds_pos (u : List UInt8) : 1 ≤ (pos u).1 ∧ (pos u).1 ≤ 1 + u.length ∧ 1 ≤ (pos u).2 ∧ (pos u).2 ≤ 1 + u.length := by
  have := bounds_from u (1, 1)
  unfold pos
  omega

/-- From any place on. -/
theorem from_shift : ∀ (u : List UInt8) (p : Int × Int) (d : Int), (from_ (p.1 + d, p.2) u).1 = (from_ p u).1 + d ∧ (from_ (p.1 + d, p.2) u).2 = (from_ p u).2
  | [], p, d => by simp [from_]
  | b :: u, p, d => by
    rw [from_cons, from_cons]
    by_cases hb : b = 10
    · have h1 : step (p.1 + d, p.2) b = ((step p b).1 + d, (step p b).2) := by simp [step, hb]; omega
      rw [h1]
      exact from_shift u (step p b) d
    · have h1 : step (p.1 + d, p.2) b = ((step p b).1 + d, (step p b).2) := by simp [step, hb]
      rw [h1]
      exact from_shift u (step p b) d

theorem from_col : ∀ (u : List UInt8) (p : Int × Int) (d : Int), ((from_ p u).1 = p.1 → from_ (p.1, p.2 + d) u = ((from_ p u).1, (from_ p u).2 + d)) ∧ ((from_ p u).1 ≠ p.1 → from_ (p.1, p.2 + d) u = from_ p u)
  | [], p, d => by simp [from_]
  | b :: u, p, d => by
    rw [from_cons, from_cons]
    by_cases hb : b = 10
    · have h1 : step (p.1, p.2 + d) b = step p b := by simp [step, hb]
      rw [h1]
      have hs : (step p b).1 = p.1 + 1 := by simp [step, hb]
      have := (bounds_from u (step p b)).1
      exact ⟨fun h => by omega, fun _ => rfl⟩
    · have h1 : step (p.1, p.2 + d) b = ((step p b).1, (step p b).2 + d) := by simp [step, hb]; omega
      have hs : (step p b).1 = p.1 := by simp [step, hb]
      rw [h1, ← hs]
      exact from_col u (step p b) d

/-- Places are added. -/
theorem from_pos (p : Int × Int) (u : List UInt8) : ((pos u).1 = 1 → from_ p u = (p.1, p.2 + (pos u).2 - 1)) ∧ ((pos u).1 ≠ 1 → from_ p u = (p.1 + (pos u).1 - 1, (pos u).2)) := by
  have h1 := from_col u (1, 1) (p.2 - 1)
  have h2 := from_shift u (1, p.2) (p.1 - 1)
  simp only at h1 h2
  have e1 : (1 : Int) + (p.2 - 1) = p.2 := by omega
  have e2 : (1 : Int) + (p.1 - 1) = p.1 := by omega
  rw [e1] at h1
  rw [e2] at h2
  have e3 : from_ p u = ((from_ (1, p.2) u).1 + (p.1 - 1), (from_ (1, p.2) u).2) := Prod.ext h2.1 h2.2
  constructor
  · intro h
    rw [e3, h1.1 h]
    have : (from_ (1, 1) u).1 = 1 := h
    refine Prod.ext ?_ ?_
    · show (from_ (1, 1) u).1 + _ = _
      rw [this]; simp only; omega
    · show (from_ (1, 1) u).2 + _ = _
      show _ = p.2 + (from_ (1, 1) u).2 - 1
      omega
  · intro h
    rw [e3, h1.2 h]
    refine Prod.ext ?_ rfl
    show (from_ (1, 1) u).1 + _ = p.1 + (from_ (1, 1) u).1 - 1
    omega

/-- They rise. -/
theorem rises (p : Int × Int) (u : List UInt8) (hu : u ≠ []) (hp : 1 ≤ p.2) : p.1 < (from_ p u).1 ∨ (p.1 = (from_ p u).1 ∧ p.2 < (from_ p u).2) := by
  have key : ∀ (u : List UInt8) (p : Int × Int), (from_ p u).1 = p.1 → (from_ p u).2 = p.2 + u.length := by
    intro u
    induction u with
    | nil => intro p _; simp [from_]
    | cons b u ih =>
      intro p h
      rw [from_cons] at h ⊢
      by_cases hb : b = 10
      · have hs : (step p b).1 = p.1 + 1 := by simp [step, hb]
        have := (bounds_from u (step p b)).1
        omega
      · have hs : step p b = (p.1, p.2 + 1) := by simp [step, hb]
        rw [hs] at h ⊢
        have := ih _ h
        simp only [List.length_cons] at *
        omega
  have h1 := (bounds_from u p).1
  by_cases h : (from_ p u).1 = p.1
  · right
    have := key u p h
    have hl : 0 < u.length := List.length_pos_iff.2 hu
    omega
  · left; omega

theorem count_pos : ∀ (u : List UInt8) (p : Int × Int), (from_ p u).1 = p.1 + (u.count 10 : Nat)
  | [], p => by simp [from_]
  | b :: u, p => by
    rw [from_cons, count_pos u]
    by_cases hb : b = 10
    · simp [step, hb]; omega
    · simp [step, hb]

theorem wrap_id {x : Int} (h1 : -9223372036854775808 ≤ x) (h2 : x ≤ 9223372036854775807) : IntKind.wrap .i64 x = x := by
  have e : ∀ x : Int, IntKind.wrap .i64 x = if x % 18446744073709551616 ≥ 9223372036854775808 then x % 18446744073709551616 - 18446744073709551616 else x % 18446744073709551616 := by
    intro x
    show (if (true && decide (x % (2 ^ 64 : Int) ≥ (2 ^ 63 : Int))) = true then x % (2 ^ 64 : Int) - (2 ^ 64 : Int) else x % (2 ^ 64 : Int)) = _
    simp only [Bool.true_and, decide_eq_true_eq]
    rfl
  rw [e]
  split <;> omega

theorem ite_clamp (z k : Int) (hz : 0 ≤ z) : (if (0 : Int) < (if z < k then z else k) then (if z < k then z else k) else 0) = max 0 (min z k) := by
  by_cases h : z < k
  · rw [if_pos h]; omega
  · rw [if_neg h]; omega

theorem extract_list (s : ByteArray) (i k : Nat) : (s.extract i k).data.toList = (s.data.toList.drop i).take (k - i) := by
  rw [ByteArray.data_extract]
  simp [List.extract_eq_take_drop]

theorem size_list (s : ByteArray) : s.size = s.data.toList.length := by rw [Array.length_toList]; rfl

theorem must_eq {R : Type} {c φ : Bool} {r : Option R} (h : φ = true) : must c φ r = r := by rw [h]; cases c <;> rfl

theorem pick_eq (n : Nat) (a m : Int) (hm : 0 < m) (hm2 : m ≤ 4611686018427387904) : ∃ k : Nat, m_suturehand_Pick n a m = some (k : Int) ∧ (k : Int) < m := by
  unfold m_suturehand_Pick
  have h0 : (!decide (m = 0)) = true := by simp; omega
  have h1 : Int.tmod a m < m := Int.tmod_lt_of_pos a hm
  have h2 : -m < Int.tmod a m := by
    have := Int.tmod_lt_of_pos (-a) hm
    rw [Int.neg_tmod] at this
    omega
  simp only [must, h0, Bool.not_true, Bool.and_false, cond_false]
  by_cases h : Int.tmod a m < 0
  · rw [decide_eq_true h]
    refine ⟨(Int.tmod a m + m).toNat, ?_, by omega⟩
    simp only [cond_true]
    rw [wrap_id (by omega) (by omega)]
    congr 1
    omega
  · rw [decide_eq_false h]
    exact ⟨(Int.tmod a m).toNat, by simp only [cond_false]; congr 1; omega, by omega⟩

def isD (c : UInt8) : Bool := decide (48 ≤ c.toNat) && decide (c.toNat ≤ 57)
def isL (c : UInt8) : Bool := decide (97 ≤ c.toNat) && decide (c.toNat ≤ 122)
theorem isD_iff {c : UInt8} : isD c = true ↔ 48 ≤ c.toNat ∧ c.toNat ≤ 57 := by simp [isD]

/-- What digits spell, behind what others did. -/
def valF (a : Nat) (w : List UInt8) : Nat := w.foldl (fun a c => 10 * a + (c.toNat - 48)) a
def val (w : List UInt8) : Nat := valF 0 w
theorem valF_nil (a : Nat) : valF a [] = a := by simp only [valF, List.foldl_nil]
theorem valF_cons (a : Nat) (c : UInt8) (r : List UInt8) : valF a (c :: r) = valF (10 * a + (c.toNat - 48)) r := by simp only [valF, List.foldl_cons]

theorem valF_le (w : List UInt8) : ∀ (a : Nat), a ≤ valF a w := by
  induction w with
  | nil => intro a; exact Nat.le_refl _
  | cons c r ih =>
    intro a
    have := ih (10 * a + (c.toNat - 48))
    rw [valF_cons]
    omega
theorem valF_append (u v : List UInt8) (a : Nat) : valF a (u ++ v) = valF (valF a u) v := List.foldl_append

theorem ofNat_digit {c : UInt8} (h : isD c = true) : UInt8.ofNat (48 + (c.toNat - 48)) = c := by
  have := isD_iff.1 h
  apply UInt8.toNat_inj.1
  rw [UInt8.toNat_ofNat']
  omega
theorem digit_ofNat {d : Nat} (h : d < 10) : (UInt8.ofNat (48 + d)).toNat = 48 + d := by
  rw [UInt8.toNat_ofNat']
  omega

/-- A numeral as Go writes it. -/
def plainNum (w : List UInt8) : Bool := w == [48] || w.head?.any (fun c => c != 48)

def L (s : ByteArray) : List UInt8 := s.data.toList

def blank (c : UInt8) : Bool := c == 32 || c == 9 || c == 10
def isLD (c : UInt8) : Bool := isL c || isD c
theorem isLD_L {c : UInt8} (h : isL c = true) : isLD c = true := by unfold isLD; rw [h]; rfl
theorem isLD_D {c : UInt8} (h : isD c = true) : isLD c = true := by unfold isLD; rw [h, Bool.or_true]
theorem isLD_no {c : UInt8} (h : isL c = false) (h2 : isD c = false) : isLD c = false := by unfold isLD; rw [h, h2]; rfl
structure Tok where
  kind : Int
  text : List UInt8
  num : Nat
  pos : Nat
def signs : List UInt8 := [61, 60, 43, 45, 42, 47, 37, 40, 41, 123, 125]
def numOk (w : List UInt8) : Bool := plainNum w && decide (val w < 9223372036854775808)

/-- The token that a text begins with. -/
def tokAt (r : List UInt8) (p : Nat) : Option Tok := match r with
  | [] => none
  | c :: r' =>
    if isL c then (if (r.takeWhile isLD).length ≤ 12 then some ⟨1, r.takeWhile isLD, 0, p⟩ else none)
    else if isD c then (if numOk (r.takeWhile isD) then some ⟨2, r.takeWhile isD, val (r.takeWhile isD), p⟩ else none)
    else if signs.contains c then (if c = 61 ∧ r'.head? = some 61 then some ⟨3, [61, 61], 0, p⟩ else some ⟨3, [c], 0, p⟩)
    else none

inductive LR where
  | ok (l : List Tok)
  | bad (p : Nat)

theorem dropWhile_le (f : UInt8 → Bool) (r : List UInt8) : (r.dropWhile f).length ≤ r.length := by
  have h := congrArg List.length (List.takeWhile_append_dropWhile (p := f) (l := r))
  rw [List.length_append] at h
  omega

/-- A text's tokens, from a place on. -/
def lexR : List UInt8 → Nat → List Tok → LR
  | [], p, acc => .ok acc
  | c :: r, p, acc =>
    if blank c then lexR r (p + 1) acc
    else if c = 35 then lexR (r.dropWhile (· != 10)) (p + 1 + (r.takeWhile (· != 10)).length) acc
    else match tokAt (c :: r) p with
      | none => .bad p
      | some t => lexR (r.drop (t.text.length - 1)) (p + t.text.length) (acc ++ [t])
termination_by l => l.length
decreasing_by
  · simp
  · have := dropWhile_le (· != 10) r; simp only [List.length_cons]; omega
  · simp only [List.length_cons, List.length_drop]; omega

theorem lexR_nil (p : Nat) (acc : List Tok) : lexR [] p acc = .ok acc := by rw [lexR]
theorem lexR_blank {c : UInt8} {r : List UInt8} {p : Nat} {acc : List Tok} (h : blank c = true) : lexR (c :: r) p acc = lexR r (p + 1) acc := by rw [lexR, if_pos h]
theorem lexR_note {r : List UInt8} {p : Nat} {acc : List Tok} : lexR (35 :: r) p acc = lexR (r.dropWhile (· != 10)) (p + 1 + (r.takeWhile (· != 10)).length) acc := by
  rw [lexR, if_neg (by decide), if_pos rfl]
theorem lexR_tok {c : UInt8} {r : List UInt8} {p : Nat} {acc : List Tok} (h : blank c = false) (h2 : c ≠ 35) {t : Tok} (ht : tokAt (c :: r) p = some t) : lexR (c :: r) p acc = lexR (r.drop (t.text.length - 1)) (p + t.text.length) (acc ++ [t]) := by
  rw [lexR, if_neg (by rw [h]; simp), if_neg h2, ht]
theorem lexR_bad {c : UInt8} {r : List UInt8} {p : Nat} {acc : List Tok} (h : blank c = false) (h2 : c ≠ 35) (ht : tokAt (c :: r) p = none) : lexR (c :: r) p acc = .bad p := by
  rw [lexR, if_neg (by rw [h]; simp), if_neg h2, ht]

/-- Several blanks at once. -/
theorem lexR_blanks : ∀ (r : List UInt8) (p : Nat) (acc : List Tok), lexR r p acc = lexR (r.dropWhile blank) (p + (r.takeWhile blank).length) acc
  | [], p, acc => rfl
  | c :: r, p, acc => by
    cases h : blank c with
    | true =>
      rw [lexR_blank h, lexR_blanks r (p + 1) acc, List.dropWhile_cons_of_pos h, List.takeWhile_cons_of_pos h]
      congr 1
      simp only [List.length_cons]; omega
    | false =>
      rw [List.dropWhile_cons_of_neg (by rw [h]; simp), List.takeWhile_cons_of_neg (by rw [h]; simp)]
      rfl

theorem drop_takeWhile (f : UInt8 → Bool) : ∀ (r : List UInt8), r.dropWhile f = r.drop (r.takeWhile f).length
  | [] => rfl
  | c :: r => by
    cases h : f c with
    | true => rw [List.dropWhile_cons_of_pos h, List.takeWhile_cons_of_pos h, drop_takeWhile f r]; rfl
    | false => rw [List.dropWhile_cons_of_neg (by rw [h]; simp), List.takeWhile_cons_of_neg (by rw [h]; simp)]; rfl

theorem take_takeWhile (f : UInt8 → Bool) (r : List UInt8) : r.take (r.takeWhile f).length = r.takeWhile f :=
  (List.prefix_iff_eq_take.1 (List.takeWhile_prefix f)).symm
theorem size_L (s : ByteArray) : s.size = (L s).length := size_list s

theorem beq_byte (b c : UInt8) (k : Int) (h : ((c.toNat : Nat) : Int) = k) : ((((UInt8.toNat b : Nat) : Int) : Int) == k) = (b == c) := by
  apply Bool.eq_iff_iff.2
  rw [beq_iff_eq, beq_iff_eq, ← h]
  exact ⟨fun hh => UInt8.toNat_inj.1 (by omega), fun hh => by rw [hh]⟩

theorem bidx_at {s : ByteArray} {i : Nat} (h : i < (L s).length) : bidx true s (i : Int) = some (L s)[i] := by
  unfold bidx
  rw [decide_eq_true (show (0 : Int) ≤ (i : Int) by omega)]
  simp only [cond_true, Int.toNat_natCast]
  have h3 : i < s.size := by rw [size_L]; exact h
  rw [getElem?_pos s i h3]
  simp [L, ByteArray.getElem_eq_getElem_data]

theorem bidx_no {s : ByteArray} {i : Int} : bidx false s i = some 0 := rfl

theorem wrap_up {i : Nat} (h : i ≤ 281474976710656) : IntKind.wrap .i64 ((i : Int) + 1) = ((i + 1 : Nat) : Int) := by rw [wrap_id (by omega) (by omega)]; omega
theorem wrap_add {i j : Nat} (h : i ≤ 281474976710656) (h2 : j ≤ 281474976710656) : IntKind.wrap .i64 ((i : Int) + (j : Int)) = ((i + j : Nat) : Int) := by rw [wrap_id (by omega) (by omega)]; omega

theorem rletter_eq (n : Nat) (b : UInt8) : m_sutureref1_letter n ((UInt8.toNat b : Nat) : Int) = some (isL b) := by
  unfold m_sutureref1_letter isL
  congr 1
  by_cases h1 : 97 ≤ b.toNat
  · rw [decide_eq_true (show ((UInt8.toNat b : Nat) : Int) ≥ 97 by omega), decide_eq_true h1]
    simp only [cond_true, Bool.true_and]
    by_cases h2 : b.toNat ≤ 122
    · rw [decide_eq_true (show ((UInt8.toNat b : Nat) : Int) ≤ 122 by omega), decide_eq_true h2]
    · rw [decide_eq_false (show ¬ ((UInt8.toNat b : Nat) : Int) ≤ 122 by omega), decide_eq_false h2]
  · rw [decide_eq_false (show ¬ ((UInt8.toNat b : Nat) : Int) ≥ 97 by omega), decide_eq_false h1]; rfl
theorem rdigit_eq (n : Nat) (b : UInt8) : m_sutureref1_digit n ((UInt8.toNat b : Nat) : Int) = some (isD b) := by
  unfold m_sutureref1_digit isD
  congr 1
  by_cases h1 : 48 ≤ b.toNat
  · rw [decide_eq_true (show ((UInt8.toNat b : Nat) : Int) ≥ 48 by omega), decide_eq_true h1]
    simp only [cond_true, Bool.true_and]
    by_cases h2 : b.toNat ≤ 57
    · rw [decide_eq_true (show ((UInt8.toNat b : Nat) : Int) ≤ 57 by omega), decide_eq_true h2]
    · rw [decide_eq_false (show ¬ ((UInt8.toNat b : Nat) : Int) ≤ 57 by omega), decide_eq_false h2]
  · rw [decide_eq_false (show ¬ ((UInt8.toNat b : Nat) : Int) ≥ 48 by omega), decide_eq_false h1]; rfl
theorem rblank_eq (b : UInt8) : (bif (bif ((((UInt8.toNat b : Nat) : Int) : Int) == 32) then true else ((((UInt8.toNat b : Nat) : Int) : Int) == 9)) then true else ((((UInt8.toNat b : Nat) : Int) : Int) == 10)) = blank b := by
  unfold blank
  rw [beq_byte b 32 32 rfl, beq_byte b 9 9 rfl, beq_byte b 10 10 rfl]
  cases (b == 32) <;> cases (b == 9) <;> rfl

theorem scan {s : ByteArray} {f : UInt8 → Bool} {l : Nat → ByteArray × Int → Option Int}
    (h : ∀ (m i : Nat), i ≤ (L s).length → l (m + 1) (s, (i : Int)) = if ((L s)[i]?).any f = true then l m (s, ((i + 1 : Nat) : Int)) else some (i : Int)) :
    ∀ (m i : Nat), i ≤ (L s).length → (L s).length - i < m → l m (s, (i : Int)) = some ((i + (((L s).drop i).takeWhile f).length : Nat) : Int)
  | 0, i, _, hm => by omega
  | m + 1, i, hi, hm => by
    rw [h m i hi]
    by_cases hlt : i < (L s).length
    · rw [List.drop_eq_getElem_cons hlt, List.getElem?_eq_getElem hlt]
      simp only [Option.any_some]
      by_cases hf : f (L s)[i] = true
      · rw [if_pos hf, scan h m (i + 1) (by omega) (by omega), List.takeWhile_cons_of_pos hf]
        congr 2
        simp only [List.length_cons]; omega
      · rw [if_neg hf, List.takeWhile_cons_of_neg hf]
        rfl
    · rw [List.getElem?_eq_none (by omega), List.drop_eq_nil_of_le (by omega)]
      rfl

theorem bytes_eq (a b : ByteArray) : (ByteArray.toList a == ByteArray.toList b) = (L a == L b) := by
  have e : ∀ x : ByteArray, x.toList = L x := fun x => ByteArray.toList_eq x
  rw [e, e]

/-- How long a word is, that a text begins with. -/
def wordLen (r : List UInt8) : Nat := match r with
  | [] => 0
  | c :: _ => if isL c = true ∧ (r.takeWhile isLD).length ≤ 12 then (r.takeWhile isLD).length else 0

theorem scanG {S O : Type} {Ls : List UInt8} {f : UInt8 → Bool} {l : Nat → S → Option O} (st : Nat → S) (out : Nat → O)
    (h : ∀ (m i : Nat), i ≤ Ls.length → l (m + 1) (st i) = if (Ls[i]?).any f = true then l m (st (i + 1)) else some (out i)) :
    ∀ (m i : Nat), i ≤ Ls.length → Ls.length - i < m → l m (st i) = some (out (i + ((Ls.drop i).takeWhile f).length))
  | 0, i, _, hm => by omega
  | m + 1, i, hi, hm => by
    rw [h m i hi]
    by_cases hlt : i < Ls.length
    · rw [List.drop_eq_getElem_cons hlt, List.getElem?_eq_getElem hlt]
      simp only [Option.any_some]
      by_cases hf : f Ls[i] = true
      · rw [if_pos hf, scanG st out h m (i + 1) (by omega) (by omega), List.takeWhile_cons_of_pos hf]
        congr 2
        simp only [List.length_cons]; omega
      · rw [if_neg hf, List.takeWhile_cons_of_neg hf]
        rfl
    · rw [List.getElem?_eq_none (by omega), List.drop_eq_nil_of_le (by omega)]
      rfl

abbrev B (l : List UInt8) : ByteArray := ⟨l.toArray⟩
theorem L_B (l : List UInt8) : L (B l) = l := by simp [L, B]
theorem B_L (s : ByteArray) : B (L s) = s := by simp [L, B]
theorem ext_B (s : ByteArray) (i k : Nat) : s.extract i k = B (((L s).drop i).take (k - i)) := by
  rw [← B_L (s.extract i k)]
  congr 1
  exact extract_list s i k

section
variable {s : ByteArray} {n : Nat} (hs : (L s).length ≤ 6000)
include hs

theorem one4_body (k : ByteArray × Int × Int × Int × ByteArray × Int × Int → Option (ByteArray × Int × Int × Int × ByteArray × Int × Int)) {i : Nat} (hi : i ≤ (L s).length) (s1 s3 s5 s6 : Int) (s4 : ByteArray) :
    l_sutureref1_one_4_B n k (s, s1, ((i : Nat) : Int), s3, s4, s5, s6) = if ((L s)[i]?).any isLD = true then k (s, s1, ((i + 1 : Nat) : Int), s3, s4, s5, s6) else some (s, s1, (i : Int), s3, s4, s5, s6) := by
  unfold l_sutureref1_one_4_B
  simp only
  by_cases hlt : i < (L s).length
  · have h1 : decide ((i : Int) < ((ByteArray.size s : Nat) : Int)) = true := by rw [decide_eq_true_eq, size_L]; omega
    simp only [h1, bidx_at hlt, List.getElem?_eq_getElem hlt, Option.bind_some, cond_true, rletter_eq, Option.any_some, wrap_up (show i ≤ 281474976710656 by omega), Bool.true_and]
    cases hl : isL (L s)[i] with
    | true => simp only [Bool.not_true, cond_false, Option.bind_some, bidx_no, cond_true]; rw [if_pos (isLD_L hl)]
    | false =>
      simp only [Bool.not_false, bidx_at hlt, Option.bind_some, cond_true, rdigit_eq, cond_false]
      by_cases hd : isD (L s)[i] = true
      · rw [hd, if_pos (isLD_D hd)]; rfl
      · rw [(Bool.not_eq_true _).mp hd, if_neg (by rw [isLD_no hl ((Bool.not_eq_true _).mp hd)]; simp)]; rfl
  · have h1 : decide ((i : Int) < ((ByteArray.size s : Nat) : Int)) = false := by rw [decide_eq_false_iff_not, size_L]; omega
    simp only [h1, bidx_no, Option.bind_some, cond_false, Bool.false_and]
    rw [List.getElem?_eq_none (by omega)]
    rfl

theorem one10_body (k : ByteArray × Int × Int × Int × ByteArray × Int × Int → Option (ByteArray × Int × Int × Int × ByteArray × Int × Int)) {i : Nat} (hi : i ≤ (L s).length) (s1 s3 s5 s6 : Int) (s4 : ByteArray) :
    l_sutureref1_one_10_B n k (s, s1, ((i : Nat) : Int), s3, s4, s5, s6) = if ((L s)[i]?).any isD = true then k (s, s1, ((i + 1 : Nat) : Int), s3, s4, s5, s6) else some (s, s1, (i : Int), s3, s4, s5, s6) := by
  unfold l_sutureref1_one_10_B
  simp only
  by_cases hlt : i < (L s).length
  · have h1 : decide ((i : Int) < ((ByteArray.size s : Nat) : Int)) = true := by rw [decide_eq_true_eq, size_L]; omega
    simp only [h1, bidx_at hlt, List.getElem?_eq_getElem hlt, Option.bind_some, cond_true, rdigit_eq, Option.any_some, wrap_up (show i ≤ 281474976710656 by omega)]
    by_cases hd : isD (L s)[i] = true
    · rw [hd, if_pos rfl]; rfl
    · rw [(Bool.not_eq_true _).mp hd, if_neg (by simp)]; rfl
  · have h1 : decide ((i : Int) < ((ByteArray.size s : Nat) : Int)) = false := by rw [decide_eq_false_iff_not, size_L]; omega
    simp only [h1, bidx_no, Option.bind_some, cond_false]
    rw [List.getElem?_eq_none (by omega)]
    rfl

theorem one4 (hn : 6001 < n) {i : Nat} (hi : i ≤ (L s).length) (s1 s3 s5 s6 : Int) (s4 : ByteArray) :
    l_sutureref1_one_4 n n (s, s1, (i : Int), s3, s4, s5, s6) = some (s, s1, ((i + (((L s).drop i).takeWhile isLD).length : Nat) : Int), s3, s4, s5, s6) :=
  scanG (l := l_sutureref1_one_4 n) (fun i => (s, s1, ((i : Nat) : Int), s3, s4, s5, s6)) (fun i => (s, s1, ((i : Nat) : Int), s3, s4, s5, s6)) (fun m i hi => one4_body hs (l_sutureref1_one_4 n m) hi s1 s3 s5 s6 s4) n i hi (by omega)
theorem one10 (hn : 6001 < n) {i : Nat} (hi : i ≤ (L s).length) (s1 s3 s5 s6 : Int) (s4 : ByteArray) :
    l_sutureref1_one_10 n n (s, s1, (i : Int), s3, s4, s5, s6) = some (s, s1, ((i + (((L s).drop i).takeWhile isD).length : Nat) : Int), s3, s4, s5, s6) :=
  scanG (l := l_sutureref1_one_10 n) (fun i => (s, s1, ((i : Nat) : Int), s3, s4, s5, s6)) (fun i => (s, s1, ((i : Nat) : Int), s3, s4, s5, s6)) (fun m i hi => one10_body hs (l_sutureref1_one_10 n m) hi s1 s3 s5 s6 s4) n i hi (by omega)

end

theorem num_digit {c : UInt8} (h : isD c = true) : IntKind.wrap .i64 (IntKind.wrap .u8 (((UInt8.toNat c : Nat) : Int) - 48)) = ((c.toNat - 48 : Nat) : Int) := by
  have h1 := isD_iff.1 h
  have e : IntKind.wrap .u8 (((UInt8.toNat c : Nat) : Int) - 48) = ((c.toNat - 48 : Nat) : Int) := by
    have : ∀ x : Int, IntKind.wrap .u8 x = x % 256 := by
      intro x
      show (if (false && decide (x % (2 ^ 8 : Int) ≥ (2 ^ 7 : Int))) = true then x % (2 ^ 8 : Int) - (2 ^ 8 : Int) else x % (2 ^ 8 : Int)) = _
      simp
    rw [this]; omega
  rw [e, wrap_id (by omega) (by omega)]

theorem num_loop {s : ByteArray} {n : Nat} (hs : (L s).length ≤ 6000) (hd : ∀ c ∈ L s, isD c = true) : ∀ (m i a : Nat), i ≤ (L s).length → (L s).length - i < m → a ≤ 9223372036854775807 →
    l_sutureref1_number_3 n m (s, (a : Int), (i : Int)) = if valF a ((L s).drop i) ≤ 9223372036854775807 then some (.inr (s, ((valF a ((L s).drop i) : Nat) : Int))) else some (.inl (0, false))
  | 0, i, a, _, hm, _ => by omega
  | m + 1, i, a, hi, hm, ha => by
    rw [l_sutureref1_number_3]
    unfold l_sutureref1_number_3_B
    simp only
    by_cases hlt : i < (L s).length
    · have h1 : decide ((i : Int) < ((ByteArray.size s : Nat) : Int)) = true := by rw [decide_eq_true_eq, size_L]; omega
      have hc := hd _ (List.getElem_mem hlt)
      have hc1 := isD_iff.1 hc
      have hle := valF_le ((L s).drop (i + 1)) (10 * a + ((L s)[i].toNat - 48))
      have hw : IntKind.wrap .i64 (9223372036854775807 - (((L s)[i].toNat - 48 : Nat) : Int)) = 9223372036854775807 - (((L s)[i].toNat - 48 : Nat) : Int) := wrap_id (by omega) (by omega)
      have hq : Int.tdiv (9223372036854775807 - (((L s)[i].toNat - 48 : Nat) : Int)) 10 = (9223372036854775807 - (((L s)[i].toNat - 48 : Nat) : Int)) / 10 := Int.tdiv_eq_ediv_of_nonneg (by omega)
      simp only [h1, cond_true, bidx_at hlt, Option.bind_some, num_digit hc, hw, hq, must]
      rw [wrap_id (show -9223372036854775808 ≤ (9223372036854775807 - (((L s)[i].toNat - 48 : Nat) : Int)) / 10 by omega) (by omega)]
      rw [List.drop_eq_getElem_cons hlt, valF_cons]
      by_cases hov : (a : Int) > (9223372036854775807 - (((L s)[i].toNat - 48 : Nat) : Int)) / 10
      · rw [decide_eq_true hov, if_neg (by omega)]
        rfl
      · rw [decide_eq_false hov]
        simp only [Bool.not_false, Bool.not_true, Bool.and_false, cond_false, show (decide ((10 : Int) = 0)) = false from rfl]
        rw [wrap_id (show -9223372036854775808 ≤ 10 * (a : Int) by omega) (by omega)]
        rw [wrap_id (show -9223372036854775808 ≤ 10 * (a : Int) + (((L s)[i].toNat - 48 : Nat) : Int) by omega) (by omega), wrap_up (show i ≤ 281474976710656 by omega)]
        rw [show 10 * (a : Int) + (((L s)[i].toNat - 48 : Nat) : Int) = ((10 * a + ((L s)[i].toNat - 48) : Nat) : Int) by omega]
        exact num_loop hs hd m (i + 1) _ (by omega) (by omega) (by omega)
    · have h1 : decide ((i : Int) < ((ByteArray.size s : Nat) : Int)) = false := by rw [decide_eq_false_iff_not, size_L]; omega
      simp only [h1, cond_false]
      rw [List.drop_eq_nil_of_le (by omega), valF_nil, if_pos ha]

theorem number_eq {s : ByteArray} {n : Nat} (hs : (L s).length ≤ 6000) (hn : 6001 < n) (hd : ∀ c ∈ L s, isD c = true) (h0 : L s ≠ []) :
    m_sutureref1_number n s = if val (L s) < 9223372036854775808 then some ((val (L s) : Int), plainNum (L s)) else some (0, false) := by
  unfold m_sutureref1_number
  have h := num_loop (n := n) hs hd n 0 0 (by omega) (by omega) (by omega)
  rw [show (((0 : Nat) : Nat) : Int) = 0 from rfl] at h
  rw [h]
  simp only [List.drop_zero]
  show Option.bind (if val (L s) ≤ 9223372036854775807 then _ else _) _ = _
  by_cases hv : val (L s) < 9223372036854775808
  · rw [if_pos (by omega), if_pos hv]
    simp only [Option.bind_some, Sum.elim_inr, bytes_eq]
    have e0 : L (⟨#[]⟩ : ByteArray) = [] := rfl
    have e1 : L (⟨#[48]⟩ : ByteArray) = [48] := rfl
    rw [e0, e1]
    cases hl : L s with
    | nil => exact absurd hl h0
    | cons c r =>
      have hne : (c :: r == ([] : List UInt8)) = false := rfl
      have hb : bidx true s 0 = some c := by
        have := bidx_at (s := s) (i := 0) (by rw [hl]; simp)
        simpa [hl] using this
      simp only [hne, Bool.not_false, hb, Option.bind_some, cond_true, bne, beq_byte c 48 48 rfl]
      have : (valF 0 (c :: r) : Int) = (val (c :: r) : Int) := rfl
      rw [this]
      congr 2
      unfold plainNum
      simp only [List.head?_cons, Option.any_some, bne]
      cases (c == 48) <;> cases (c :: r == [48]) <;> rfl
  · rw [if_neg (by omega), if_neg hv]
    rfl

theorem L_signs : L (⟨#[61, 60, 43, 45, 42, 47, 37, 40, 41, 123, 125]⟩ : ByteArray) = signs := rfl

theorem sign_loop {s : ByteArray} {n : Nat} {p : Nat} (hp : p < (L s).length) (hs : (L s).length ≤ 6000) (c : UInt8) (s5 s7 s8 : Int) (s6 : ByteArray) : ∀ (m i : Nat), i ≤ 11 → 11 - i < m →
    l_sutureref1_one_19 n m (s, (p : Int), ((UInt8.toNat c : Nat) : Int), ((p + 1 : Nat) : Int), (i : Int), s5, s6, s7, s8) =
      if (signs.drop i).contains c then some (.inl (1, 3, B (((L s).drop p).take 1), 0, (p : Int))) else some (.inr (s5, s6, s7, s8))
  | 0, i, _, hm => by omega
  | m + 1, i, hi, hm => by
    rw [l_sutureref1_one_19]
    unfold l_sutureref1_one_19_B
    simp only
    by_cases hlt : i < 11
    · rw [decide_eq_true (show ((i : Nat) : Int) < 11 by omega)]
      have hl : i < (L (⟨#[61, 60, 43, 45, 42, 47, 37, 40, 41, 123, 125]⟩ : ByteArray)).length := by rw [L_signs]; exact hlt
      have hl2 : i < signs.length := hlt
      rw [List.drop_eq_getElem_cons hl2, List.contains_cons]
      simp only [cond_true, bidx_at hl, Option.bind_some]
      rw [beq_byte (L (⟨#[61, 60, 43, 45, 42, 47, 37, 40, 41, 123, 125]⟩ : ByteArray))[i] c _ rfl]
      have hsame : (L (⟨#[61, 60, 43, 45, 42, 47, 37, 40, 41, 123, 125]⟩ : ByteArray))[i] = signs[i] := rfl
      rw [hsame]
      by_cases hc : signs[i] = c
      · rw [beq_iff_eq.2 hc, beq_iff_eq.2 hc.symm]
        simp only [cond_true, Bool.true_or, if_true, Int.toNat_natCast]
        rw [must_eq (by simp only [Bool.and_eq_true, decide_eq_true_eq, size_L]; omega), ext_B]
        rw [show p + 1 - p = 1 by omega]
      · rw [beq_eq_false_iff_ne.2 hc, beq_eq_false_iff_ne.2 (Ne.symm hc)]
        simp only [cond_false, Bool.false_or]
        rw [wrap_up (show i ≤ 281474976710656 by omega)]
        exact sign_loop hp hs c s5 s7 s8 s6 m (i + 1) (by omega) (by omega)
    · rw [decide_eq_false (show ¬ ((i : Nat) : Int) < 11 by omega)]
      have : signs.drop i = [] := List.drop_eq_nil_of_le (by show 11 ≤ i; omega)
      rw [this]
      rfl

/-- One token, as the document's function tells it. -/
def oneR (p : Nat) : Option Tok → Int × ByteArray × Int × Int × Int
  | none => (0, ⟨#[]⟩, 0, 0, 0)
  | some t => (t.kind, B t.text, (t.num : Int), (p : Int), (t.text.length : Int))

theorem one_eq {s : ByteArray} {n p : Nat} (hp : p < (L s).length) (hs : (L s).length ≤ 6000) (hn : 6001 < n) : m_sutureref1_one n s (p : Int) = some (oneR p (tokAt ((L s).drop p) p)) := by
  unfold m_sutureref1_one
  simp only [bidx_at hp, Option.bind_some, rletter_eq, rdigit_eq, wrap_up (show p ≤ 281474976710656 by omega)]
  have hdrop := List.drop_eq_getElem_cons hp
  have htw : ∀ (f : UInt8 → Bool), f (L s)[p] = true → (((L s).drop p).takeWhile f) = (L s)[p] :: (((L s).drop (p + 1)).takeWhile f) := by
    intro f hf
    rw [hdrop, List.takeWhile_cons_of_pos hf]
  have hlen : ∀ (f : UInt8 → Bool), (((L s).drop (p + 1)).takeWhile f).length ≤ (L s).length - (p + 1) := by
    intro f
    have := (List.takeWhile_prefix f (l := (L s).drop (p + 1))).length_le
    rw [List.length_drop] at this
    exact this
  have hext : ∀ (f : UInt8 → Bool), f (L s)[p] = true → s.extract p (p + 1 + (((L s).drop (p + 1)).takeWhile f).length) = B (((L s).drop p).takeWhile f) := by
    intro f hf
    rw [ext_B, show p + 1 + (((L s).drop (p + 1)).takeWhile f).length - p = (((L s).drop p).takeWhile f).length by rw [htw f hf, List.length_cons]; omega, take_takeWhile]
  cases hl : isL (L s)[p] with
  | true =>
    have hLD : isLD (L s)[p] = true := isLD_L hl
    have h1 := hlen isLD
    simp only [cond_true, one4 hs hn (show p + 1 ≤ (L s).length by omega), Option.bind_some]
    rw [show ((p + 1 + (((L s).drop (p + 1)).takeWhile isLD).length : Nat) : Int) - (p : Int) = (((((L s).drop p).takeWhile isLD).length : Nat) : Int) by rw [htw _ hLD, List.length_cons]; omega]
    rw [wrap_id (by omega) (by rw [htw _ hLD, List.length_cons]; omega)]
    rw [hdrop]
    simp only [tokAt, hl, if_true]
    rw [← hdrop]
    by_cases h12 : (((L s).drop p).takeWhile isLD).length ≤ 12
    · rw [decide_eq_false (by omega), if_pos h12]
      simp only [cond_false, Int.toNat_natCast]
      rw [must_eq (by simp only [Bool.and_eq_true, decide_eq_true_eq, size_L]; omega), hext _ hLD]
      rfl
    · rw [decide_eq_true (by omega), if_neg h12]
      rfl
  | false =>
    simp only [cond_false]
    cases hd : isD (L s)[p] with
    | true =>
      have h1 := hlen isD
      simp only [cond_true, one10 hs hn (show p + 1 ≤ (L s).length by omega), Option.bind_some, Int.toNat_natCast]
      rw [must_eq (by simp only [Bool.and_eq_true, decide_eq_true_eq, size_L]; omega), hext _ hd]
      have hLw : L (B (((L s).drop p).takeWhile isD)) = ((L s).drop p).takeWhile isD := L_B _
      have hne : ((L s).drop p).takeWhile isD ≠ [] := by rw [htw _ hd]; simp
      have hall : ∀ c ∈ ((L s).drop p).takeWhile isD, isD c = true := fun c hc => List.all_eq_true.1 (List.all_takeWhile (p := isD) (l := (L s).drop p)) c hc
      rw [number_eq (by rw [hLw, htw _ hd, List.length_cons]; omega) hn (by rw [hLw]; exact hall) (by rw [hLw]; exact hne), hLw]
      have htok : tokAt ((L s).drop p) p = if numOk (((L s).drop p).takeWhile isD) then some ⟨2, ((L s).drop p).takeWhile isD, val (((L s).drop p).takeWhile isD), p⟩ else none := by
        conv => lhs; rw [hdrop]
        simp only [tokAt, hl, hd, if_true, Bool.false_eq_true, if_false]
        rw [← hdrop]
      rw [htok]
      unfold numOk
      by_cases hv : val (((L s).drop p).takeWhile isD) < 9223372036854775808
      · rw [if_pos hv, decide_eq_true hv, Bool.and_true]
        simp only [Option.bind_some]
        cases hpn : plainNum (((L s).drop p).takeWhile isD) with
        | false => rfl
        | true =>
          simp only [Bool.not_true, cond_false, if_true]
          rw [must_eq (by simp only [Bool.and_eq_true, decide_eq_true_eq, size_L]; omega)]
          rw [show ((p + 1 + (((L s).drop (p + 1)).takeWhile isD).length : Nat) : Int) - (p : Int) = (((((L s).drop p).takeWhile isD).length : Nat) : Int) by rw [htw _ hd, List.length_cons]; omega]
          rw [wrap_id (by omega) (by rw [htw _ hd, List.length_cons]; omega)]
          rfl
      · rw [if_neg hv, decide_eq_false hv, Bool.and_false]
        rfl
    | false =>
      simp only [cond_false, beq_byte (L s)[p] 61 61 rfl]
      have htok : tokAt ((L s).drop p) p = if signs.contains (L s)[p] then (if (L s)[p] = 61 ∧ ((L s).drop (p + 1)).head? = some 61 then some ⟨3, [61, 61], 0, p⟩ else some ⟨3, [(L s)[p]], 0, p⟩) else none := by
        conv => lhs; rw [hdrop]
        simp only [tokAt, hl, hd, Bool.false_eq_true, if_false]
      have hsl := sign_loop (n := n) hp hs (L s)[p] 0 0 0 ⟨#[]⟩ n 0 (by omega) (by omega)
      have htake : ((L s).drop p).take 1 = [(L s)[p]] := by rw [hdrop]; rfl
      rw [htake] at hsl
      rw [show (((0 : Nat) : Nat) : Int) = 0 from rfl] at hsl
      simp only [List.drop_zero] at hsl
      have hrest : ∀ hq : ¬ ((L s)[p] = 61 ∧ ((L s).drop (p + 1)).head? = some 61), (Option.bind (l_sutureref1_one_19 n n (s, (p : Int), ((UInt8.toNat (L s)[p] : Nat) : Int), ((p + 1 : Nat) : Int), 0, 0, (⟨#[]⟩ : ByteArray), 0, 0)) fun x16 =>
          Sum.elim (fun p17 => some (p17.2.1, p17.2.2.1, p17.2.2.2.1, p17.2.2.2.2, p17.1)) (fun x16' => (fun p18 => some (0, (⟨#[]⟩ : ByteArray), 0, 0, 0)) x16') x16) = some (oneR p (tokAt ((L s).drop p) p)) := by
        intro hq
        rw [hsl, htok]
        cases hcon : signs.contains (L s)[p] with
        | false => rfl
        | true => rw [if_pos rfl, if_neg hq]; rfl
      by_cases h61 : (L s)[p] = 61
      · rw [beq_iff_eq.2 h61]
        simp only [cond_true]
        by_cases hlt : p + 1 < (L s).length
        · rw [decide_eq_true (show ((p + 1 : Nat) : Int) < ((ByteArray.size s : Nat) : Int) by rw [size_L]; omega)]
          simp only [bidx_at hlt, Option.bind_some, cond_true, beq_byte (L s)[p + 1] 61 61 rfl]
          by_cases h2 : (L s)[p + 1] = 61
          · rw [beq_iff_eq.2 h2, htok, h61]
            rw [if_pos (by decide), if_pos ⟨rfl, by rw [List.drop_eq_getElem_cons hlt]; simp [h2]⟩]
            rfl
          · rw [beq_eq_false_iff_ne.2 h2]
            simp only [cond_false]
            exact hrest (by rintro ⟨_, h3⟩; rw [List.drop_eq_getElem_cons hlt] at h3; simp at h3; rw [List.getElem?_eq_getElem hlt] at h3; exact h2 (Option.some.inj h3))
        · rw [decide_eq_false (show ¬ ((p + 1 : Nat) : Int) < ((ByteArray.size s : Nat) : Int) by rw [size_L]; omega)]
          simp only [bidx_no, Option.bind_some, cond_false]
          exact hrest (by rintro ⟨_, h3⟩; rw [List.drop_eq_nil_of_le (by omega)] at h3; simp at h3)
      · rw [beq_eq_false_iff_ne.2 h61]
        simp only [cond_false, bidx_no, Option.bind_some]
        exact hrest (fun h => h61 h.1)

/-- A token, as the document's functions hold it. -/
def encR (t : Tok) : T := T.agg [(T.sc (.int .i64 t.kind)), (T.sc (.string (B t.text))), (T.sc (.int .i64 (t.num : Int))), (T.sc (.int .i64 (t.pos : Int)))]

theorem tokAt_pos {r : List UInt8} {p : Nat} {t : Tok} (h : tokAt r p = some t) : t.pos = p ∧ 1 ≤ t.text.length ∧ t.text.length ≤ r.length ∧ t.text = r.take t.text.length := by
  have hpre : ∀ (f : UInt8 → Bool) (c : UInt8) (r' : List UInt8), f c = true → 1 ≤ ((c :: r').takeWhile f).length ∧ ((c :: r').takeWhile f).length ≤ (c :: r').length := by
    intro f c r' hf
    refine ⟨by rw [List.takeWhile_cons_of_pos hf]; simp, (List.takeWhile_prefix f).length_le⟩
  unfold tokAt at h
  cases r with
  | nil => cases h
  | cons c r' =>
    simp only at h
    split at h
    · rename_i hl
      split at h
      · simp only [Option.some.injEq] at h
        subst h
        have := hpre isLD c r' (isLD_L hl)
        exact ⟨rfl, this.1, this.2, (take_takeWhile _ _).symm⟩
      · cases h
    · split at h
      · rename_i hd
        split at h
        · simp only [Option.some.injEq] at h
          subst h
          have := hpre isD c r' hd
          exact ⟨rfl, this.1, this.2, (take_takeWhile _ _).symm⟩
        · cases h
      · split at h
        · split at h
          · rename_i hq
            simp only [Option.some.injEq] at h
            subst h
            obtain ⟨rfl, h2⟩ := hq
            cases r' with
            | nil => simp at h2
            | cons d r2 => simp at h2; subst h2; exact ⟨rfl, by simp, by simp, rfl⟩
          · simp only [Option.some.injEq] at h
            subst h
            exact ⟨rfl, by simp, by simp, rfl⟩
        · cases h

theorem lexR_acc : ∀ (k : Nat) (r : List UInt8) (p : Nat) (acc : List Tok), r.length ≤ k → lexR r p acc = match lexR r p [] with
    | .ok l => .ok (acc ++ l)
    | .bad q => .bad q := by
  intro k
  induction k with
  | zero =>
    intro r p acc hr
    have : r = [] := List.length_eq_zero_iff.1 (by omega)
    subst this
    rw [lexR_nil, lexR_nil]; simp
  | succ k ih =>
    intro r p acc hr
    cases r with
    | nil => rw [lexR_nil, lexR_nil]; simp
    | cons c r =>
      simp only [List.length_cons] at hr
      cases hb : blank c with
      | true => rw [lexR_blank hb, lexR_blank hb, ih r _ acc (by omega)]
      | false =>
        by_cases h35 : c = 35
        · subst h35
          have := dropWhile_le (· != 10) r
          rw [lexR_note, lexR_note, ih _ _ acc (by omega)]
        · cases ht : tokAt (c :: r) p with
          | none => rw [lexR_bad hb h35 ht, lexR_bad hb h35 ht]
          | some t =>
            rw [lexR_tok hb h35 ht, lexR_tok hb h35 ht, ih _ _ (acc ++ [t]) (by rw [List.length_drop]; omega), ih _ _ ([] ++ [t]) (by rw [List.length_drop]; omega)]
            cases lexR (r.drop (t.text.length - 1)) (p + t.text.length) [] with
            | ok l => simp
            | bad q => rfl

/-- How many tokens there are. -/
theorem lexR_len : ∀ (k : Nat) (r : List UInt8) (p : Nat) (acc l : List Tok), r.length ≤ k → lexR r p acc = .ok l → l.length ≤ acc.length + r.length := by
  intro k
  induction k with
  | zero =>
    intro r p acc l hr h
    have : r = [] := List.length_eq_zero_iff.1 (by omega)
    subst this
    rw [lexR_nil] at h; cases h; simp
  | succ k ih =>
    intro r p acc l hr h
    cases r with
    | nil => rw [lexR_nil] at h; cases h; simp
    | cons c r =>
      simp only [List.length_cons] at hr ⊢
      cases hb : blank c with
      | true => rw [lexR_blank hb] at h; have := ih r _ acc l (by omega) h; omega
      | false =>
        by_cases h35 : c = 35
        · subst h35
          have h0 := dropWhile_le (· != 10) r
          rw [lexR_note] at h
          have := ih _ _ acc l (by omega) h
          omega
        · cases ht : tokAt (c :: r) p with
          | none => rw [lexR_bad hb h35 ht] at h; cases h
          | some t =>
            rw [lexR_tok hb h35 ht] at h
            have := ih _ _ (acc ++ [t]) l (by rw [List.length_drop]; omega) h
            rw [List.length_append, List.length_drop] at this
            simp only [List.length_cons, List.length_nil] at this
            omega

theorem sized4_R (l : List Tok) (x : Tok) : sized 4 [encR x] = true := rfl

section
variable {s : ByteArray} {n : Nat}

theorem note_body (hs : (L s).length ≤ 6000) (k : ByteArray × (List T) × Int → Option (ByteArray × (List T) × Int)) {i : Nat} (hi : i ≤ (L s).length) (a : List T) :
    l_sutureref1_Tokens_10_B n k (s, a, (i : Int)) = if ((L s)[i]?).any (· != 10) = true then k (s, a, ((i + 1 : Nat) : Int)) else some (s, a, (i : Int)) := by
  unfold l_sutureref1_Tokens_10_B
  simp only
  by_cases hlt : i < (L s).length
  · have h1 : decide ((i : Int) < ((ByteArray.size s : Nat) : Int)) = true := by rw [decide_eq_true_eq, size_L]; omega
    simp only [h1, bidx_at hlt, List.getElem?_eq_getElem hlt, Option.bind_some, cond_true, Option.any_some, wrap_up (show i ≤ 281474976710656 by omega), bne, beq_byte (L s)[i] 10 10 rfl]
    cases ((L s)[i] == 10) <;> rfl
  · have h1 : decide ((i : Int) < ((ByteArray.size s : Nat) : Int)) = false := by rw [decide_eq_false_iff_not, size_L]; omega
    simp only [h1, bidx_no, Option.bind_some, cond_false]
    rw [List.getElem?_eq_none (by omega)]
    rfl

theorem note_eq (hs : (L s).length ≤ 6000) (hn : 6001 < n) {i : Nat} (hi : i ≤ (L s).length) (a : List T) :
    l_sutureref1_Tokens_10 n n (s, a, (i : Int)) = some (s, a, ((i + (((L s).drop i).takeWhile (· != 10)).length : Nat) : Int)) :=
  scanG (l := l_sutureref1_Tokens_10 n) (fun i => (s, a, ((i : Nat) : Int))) (fun i => (s, a, ((i : Nat) : Int))) (fun m i hi => note_body hs (l_sutureref1_Tokens_10 n m) hi a) n i hi (by omega)

def outR (s : ByteArray) : LR → Option ((((List T) × Int × Int) ⊕ (List T) × Int))
  | .ok l => some (.inr (l.map encR, ((L s).length : Int)))
  | .bad q => some (.inl ([], (q : Int), 2))

theorem tokens_loop (hs : (L s).length ≤ 6000) (hn : 6001 < n) : ∀ (m p : Nat) (acc : List Tok), p ≤ (L s).length → (L s).length - p < m → acc.length ≤ p →
    l_sutureref1_Tokens_5 n m (s, acc.map encR, (p : Int)) = outR s (lexR ((L s).drop p) p acc)
  | 0, p, acc, _, hm, _ => by omega
  | m + 1, p, acc, hp, hm, ha => by
    rw [l_sutureref1_Tokens_5]
    unfold l_sutureref1_Tokens_5_B
    simp only
    by_cases hlt : p < (L s).length
    · have h1 : decide ((p : Int) < ((ByteArray.size s : Nat) : Int)) = true := by rw [decide_eq_true_eq, size_L]; omega
      have hdrop := List.drop_eq_getElem_cons hlt
      have hbl : (bif (bif ((((UInt8.toNat (L s)[p] : Nat) : Int) : Int) == 32) then true else ((((UInt8.toNat (L s)[p] : Nat) : Int) : Int) == 9)) then true else ((((UInt8.toNat (L s)[p] : Nat) : Int) : Int) == 10)) = blank (L s)[p] := by
        exact rblank_eq (L s)[p]
      simp only [h1, cond_true, bidx_at hlt, Option.bind_some, hbl]
      cases hb : blank (L s)[p] with
      | true =>
        simp only [cond_true]
        rw [wrap_up (show p ≤ 281474976710656 by omega), tokens_loop hs hn m (p + 1) acc (by omega) (by omega) (by omega), hdrop, lexR_blank hb]
      | false =>
        simp only [cond_false, beq_byte (L s)[p] 35 35 rfl]
        by_cases h35 : (L s)[p] = 35
        · rw [beq_iff_eq.2 h35]
          simp only [cond_true]
          rw [note_eq hs hn hp]
          simp only [Option.bind_some]
          have htw : (((L s).drop p).takeWhile (· != 10)) = 35 :: (((L s).drop (p + 1)).takeWhile (· != 10)) := by
            rw [hdrop, h35, List.takeWhile_cons_of_pos (by decide)]
          have hlen := (List.takeWhile_prefix (· != 10) (l := (L s).drop (p + 1))).length_le
          rw [List.length_drop] at hlen
          rw [htw, List.length_cons, tokens_loop hs hn m _ acc (by omega) (by omega) (by omega), hdrop, h35, lexR_note]
          congr 2
          · rw [drop_takeWhile, List.drop_drop]
            congr 1; omega
          · omega
        · rw [beq_eq_false_iff_ne.2 h35]
          simp only [cond_false]
          rw [one_eq hlt hs hn]
          simp only [Option.bind_some]
          cases ht : tokAt ((L s).drop p) p with
          | none =>
            simp only [oneR, BEq.rfl, cond_true]
            rw [hdrop] at ht ⊢
            rw [lexR_bad hb h35 ht]
            rfl
          | some t =>
            obtain ⟨h2, h3, h4, h5⟩ := tokAt_pos ht
            rw [List.length_drop] at h4
            simp only [oneR]
            rw [beq_eq_false_iff_ne.2 (show ((t.text.length : Nat) : Int) ≠ 0 by omega)]
            simp only [cond_false]
            rw [must_eq (by simp only [List.length_map, List.length_cons, List.length_nil, Bool.and_eq_true, decide_eq_true_eq]; exact ⟨rfl, by omega, rfl⟩)]
            rw [wrap_add (show p ≤ 281474976710656 by omega) (by omega)]
            have e : acc.map encR ++ [T.agg [(T.sc (.int .i64 t.kind)), (T.sc (.string (B t.text))), (T.sc (.int .i64 (t.num : Int))), (T.sc (.int .i64 (p : Int)))]] = (acc ++ [t]).map encR := by
              rw [List.map_append]; simp only [List.map_cons, List.map_nil, encR, h2]
            rw [e, tokens_loop hs hn m _ (acc ++ [t]) (by omega) (by omega) (by rw [List.length_append]; simp only [List.length_cons, List.length_nil]; omega)]
            rw [hdrop] at ht ⊢
            rw [lexR_tok hb h35 ht]
            congr 2
            rw [List.drop_drop]
            congr 1; omega
    · have h1 : decide ((p : Int) < ((ByteArray.size s : Nat) : Int)) = false := by rw [decide_eq_false_iff_not, size_L]; omega
      simp only [h1, cond_false]
      rw [List.drop_eq_nil_of_le (by omega), lexR_nil]
      have : p = (L s).length := by omega
      subst this
      rfl

/-- What the document's Tokens comes to. -/
def toksR (s : ByteArray) : List T × Int × Int :=
  if 6000 < (L s).length then ([], 6000, 2) else match lexR (L s) 0 [] with
  | .ok l => ((l ++ [(⟨4, [], 0, (L s).length⟩ : Tok)]).map encR, 0, 0)
  | .bad q => ([], (q : Int), 2)

theorem tokensR_eq (hn : 6001 < n) : m_sutureref1_Tokens n s = some (toksR s) := by
  unfold m_sutureref1_Tokens toksR
  by_cases h : 6000 < (L s).length
  · rw [decide_eq_true (show ((ByteArray.size s : Nat) : Int) > 6000 by rw [size_L]; omega), if_pos h]
    rfl
  · rw [decide_eq_false (show ¬ ((ByteArray.size s : Nat) : Int) > 6000 by rw [size_L]; omega), if_neg h]
    have hl := tokens_loop (s := s) (n := n) (by omega) hn n 0 [] (by omega) (by omega) (by simp)
    rw [List.drop_zero, show (((0 : Nat) : Nat) : Int) = 0 from rfl, List.map_nil] at hl
    simp only [cond_false, hl]
    cases hr : lexR (L s) 0 [] with
    | bad q => rfl
    | ok l =>
      have := lexR_len _ (L s) 0 [] l (Nat.le_refl _) hr
      simp only [List.length_nil] at this
      simp only [outR, Option.bind_some, Sum.elim_inr]
      rw [must_eq (by simp only [List.length_map, List.length_cons, List.length_nil, Bool.and_eq_true, decide_eq_true_eq]; exact ⟨rfl, by omega, rfl⟩)]
      rw [List.map_append]
      rfl
end


end Go.Proofs.Ytgpokdaacbjimab.W
