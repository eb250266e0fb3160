/- Own texts, several in one. No conditions. -/
import Derived.Test.YtgpokdaacbjimabS
import Derived.Test.YtgpokdaacbjimabEngFl
import Derived.Test.YtgpokdaacbjimabEngWF
import Derived.KernelRfl
namespace Go.Proofs.Ytgpokdaacbjimab.W
open Go Go.Eng
set_option linter.unusedVariables false
set_option linter.unusedSimpArgs false
def step (p : Int × Int) (b : UInt8) : Int × Int := if b = 10 then (p.1 + 1, 1) else (p.1, p.2 + 1)
def from_ (p : Int × Int) (u : List UInt8) : Int × Int := u.foldl step p
def pos (u : List UInt8) : Int × Int := from_ (1, 1) u
theorem pos_append (u v : List UInt8) : pos (u ++ v) = from_ (pos u) v := by simp [pos, from_]
theorem from_cons (p : Int × Int) (b : UInt8) (u : List UInt8) : from_ p (b :: u) = from_ (step p b) u := rfl
theorem bounds_from : ∀ (u : List UInt8) (p : Int × Int), p.1 <= (from_ p u).1 /\ (from_ p u).1 <= p.1 + u.length /\ (1 <= p.2 -> 1 <= (from_ p u).2) /\ (1 <= p.2 -> (from_ p u).2 <= p.2 + u.length)
 | [], p => by simp [from_]
 | b :: u, p => by
  rw [from_cons]
  have := bounds_from u (step p b)
  by_cases hb : b = 10
  ·have hs : step p b = (p.1 + 1, 1) := by simp [step, hb]
   rw [hs] at this ⊢
   simp only [List.length_cons] at *
   omega
  ·have hs : step p b = (p.1, p.2 + 1) := by simp [step, hb]
   rw [hs] at this ⊢
   simp only [List.length_cons] at *
   omega
theorem bounds_pos (u : List UInt8) : 1 <= (pos u).1 /\ (pos u).1 <= 1 + u.length /\ 1 <= (pos u).2 /\ (pos u).2 <= 1 + u.length := by
 have := bounds_from u (1, 1)
 unfold pos
 omega
theorem from_shift : ∀ (u : List UInt8) (p : Int × Int) (d : Int), (from_ (p.1 + d, p.2) u).1 = (from_ p u).1 + d /\ (from_ (p.1 + d, p.2) u).2 = (from_ p u).2
 | [], p, d => by simp [from_]
 | b :: u, p, d => by
  rw [from_cons, from_cons]
  by_cases hb : b = 10
  ·have h1 : step (p.1 + d, p.2) b = ((step p b).1 + d, (step p b).2) := by simp [step, hb]; omega
   rw [h1]
   exact from_shift u (step p b) d
  ·have h1 : step (p.1 + d, p.2) b = ((step p b).1 + d, (step p b).2) := by simp [step, hb]
   rw [h1]
   exact from_shift u (step p b) d
theorem from_col : ∀ (u : List UInt8) (p : Int × Int) (d : Int), ((from_ p u).1 = p.1 -> from_ (p.1, p.2 + d) u = ((from_ p u).1, (from_ p u).2 + d)) /\ ((from_ p u).1 ≠ p.1 -> from_ (p.1, p.2 + d) u = from_ p u)
 | [], p, d => by simp [from_]
 | b :: u, p, d => by
  rw [from_cons, from_cons]
  by_cases hb : b = 10
  ·have h1 : step (p.1, p.2 + d) b = step p b := by simp [step, hb]
   rw [h1]
   have hs : (step p b).1 = p.1 + 1 := by simp [step, hb]
   have := (bounds_from u (step p b)).1
   exact ⟨fun h => by omega, fun _ => rfl⟩
  ·have h1 : step (p.1, p.2 + d) b = ((step p b).1, (step p b).2 + d) := by simp [step, hb]; omega
   have hs : (step p b).1 = p.1 := by simp [step, hb]
   rw [h1, <- hs]
   exact from_col u (step p b) d
theorem from_pos (p : Int × Int) (u : List UInt8) : ((pos u).1 = 1 -> from_ p u = (p.1, p.2 + (pos u).2 - 1)) /\ ((pos u).1 ≠ 1 -> from_ p u = (p.1 + (pos u).1 - 1, (pos u).2)) := by
 have h1 := from_col u (1, 1) (p.2 - 1)
 have h2 := from_shift u (1, p.2) (p.1 - 1)
 simp only at h1 h2
 have e1 : (1 : Int) + (p.2 - 1) = p.2 := by omega
 have e2 : (1 : Int) + (p.1 - 1) = p.1 := by omega
 rw [e1] at h1
 rw [e2] at h2
 have e3 : from_ p u = ((from_ (1, p.2) u).1 + (p.1 - 1), (from_ (1, p.2) u).2) := Prod.ext h2.1 h2.2
 constructor
 ·intro h
  rw [e3, h1.1 h]
  have : (from_ (1, 1) u).1 = 1 := h
  refine Prod.ext ?_ ?_
  ·show (from_ (1, 1) u).1 + _ = _
   rw [this]; simp only; omega
  ·show (from_ (1, 1) u).2 + _ = _
   show _ = p.2 + (from_ (1, 1) u).2 - 1
   omega
 ·intro h
  rw [e3, h1.2 h]
  refine Prod.ext ?_ rfl
  show (from_ (1, 1) u).1 + _ = p.1 + (from_ (1, 1) u).1 - 1
  omega
theorem rises (p : Int × Int) (u : List UInt8) (hu : u ≠ []) (hp : 1 <= p.2) : p.1 < (from_ p u).1 \/ (p.1 = (from_ p u).1 /\ p.2 < (from_ p u).2) := by
 have key : ∀ (u : List UInt8) (p : Int × Int), (from_ p u).1 = p.1 -> (from_ p u).2 = p.2 + u.length := by
  intro u
  induction u with
  | nil => intro p _; simp [from_]
  | cons b u ih =>
   intro p h
   rw [from_cons] at h ⊢
   by_cases hb : b = 10
   ·have hs : (step p b).1 = p.1 + 1 := by simp [step, hb]
    have := (bounds_from u (step p b)).1
    omega
   ·have hs : step p b = (p.1, p.2 + 1) := by simp [step, hb]
    rw [hs] at h ⊢
    have := ih _ h
    simp only [List.length_cons] at *
    omega
 have h1 := (bounds_from u p).1
 by_cases h : (from_ p u).1 = p.1
 ·right
  have := key u p h
  have hl : 0 < u.length := List.length_pos_iff.2 hu
  omega
 ·left; omega
theorem count_pos : ∀ (u : List UInt8) (p : Int × Int), (from_ p u).1 = p.1 + (u.count 10 : Nat)
 | [], p => by simp [from_]
 | b :: u, p => by
  rw [from_cons, count_pos u]
  by_cases hb : b = 10
  ·simp [step, hb]; omega
  ·simp [step, hb]
theorem wrap_id {x : Int} (h1 : -9223372036854775808 <= x) (h2 : x <= 9223372036854775807) : IntKind.wrap .i64 x = x := by
 have e : ∀ x : Int, IntKind.wrap .i64 x = if x % 18446744073709551616 ≥ 9223372036854775808 then x % 18446744073709551616 - 18446744073709551616 else x % 18446744073709551616 := by
  intro x
  show (if (true && decide (x % (2 ^ 64 : Int) ≥ (2 ^ 63 : Int))) = true then x % (2 ^ 64 : Int) - (2 ^ 64 : Int) else x % (2 ^ 64 : Int)) = _
  simp only [Bool.true_and, decide_eq_true_eq]
  rfl
 rw [e]
 split <;> omega
theorem ite_clamp (z k : Int) (hz : 0 <= z) : (if (0 : Int) < (if z < k then z else k) then (if z < k then z else k) else 0) = max 0 (min z k) := by
 by_cases h : z < k
 ·rw [if_pos h]; omega
 ·rw [if_neg h]; omega
theorem extract_list (s : ByteArray) (i k : Nat) : (s.extract i k).data.toList = (s.data.toList.drop i).take (k - i) := by
 rw [ByteArray.data_extract]
 simp [List.extract_eq_take_drop]
theorem size_list (s : ByteArray) : s.size = s.data.toList.length := by rw [Array.length_toList]; rfl
theorem must_eq {R : Type} {c φ : Bool} {r : Option R} (h : φ = true) : must c φ r = r := by rw [h]; cases c <;> rfl
theorem pick_eq (n : Nat) (a m : Int) (hm : 0 < m) (hm2 : m <= 4611686018427387904) : ∃ k : Nat, m_suturehand_Pick n a m = some (k : Int) /\ (k : Int) < m := by
 unfold m_suturehand_Pick
 have h0 : (!decide (m = 0)) = true := by simp; omega
 have h1 : Int.tmod a m < m := Int.tmod_lt_of_pos a hm
 have h2 : -m < Int.tmod a m := by
  have := Int.tmod_lt_of_pos (-a) hm
  rw [Int.neg_tmod] at this
  omega
 simp only [must, h0, Bool.not_true, Bool.and_false, cond_false]
 by_cases h : Int.tmod a m < 0
 ·rw [decide_eq_true h]
  refine ⟨(Int.tmod a m + m).toNat, ?_, by omega⟩
  simp only [cond_true]
  rw [wrap_id (by omega) (by omega)]
  congr 1
  omega
 ·rw [decide_eq_false h]
  exact ⟨(Int.tmod a m).toNat, by simp only [cond_false]; congr 1; omega, by omega⟩
def isD (c : UInt8) : Bool := decide (48 <= c.toNat) && decide (c.toNat <= 57)
def isL (c : UInt8) : Bool := decide (97 <= c.toNat) && decide (c.toNat <= 122)
theorem isD_iff {c : UInt8} : isD c = true ↔ 48 <= c.toNat /\ c.toNat <= 57 := by simp [isD]
def valF (a : Nat) (w : List UInt8) : Nat := w.foldl (fun a c => 10 * a + (c.toNat - 48)) a
def val (w : List UInt8) : Nat := valF 0 w
theorem valF_nil (a : Nat) : valF a [] = a := by simp only [valF, List.foldl_nil]
theorem valF_cons (a : Nat) (c : UInt8) (r : List UInt8) : valF a (c :: r) = valF (10 * a + (c.toNat - 48)) r := by simp only [valF, List.foldl_cons]
theorem valF_le (w : List UInt8) : ∀ (a : Nat), a <= valF a w := by
 induction w with
 | nil => intro a; exact Nat.le_refl _
 | cons c r ih =>
  intro a
  have := ih (10 * a + (c.toNat - 48))
  rw [valF_cons]
  omega
theorem valF_append (u v : List UInt8) (a : Nat) : valF a (u ++ v) = valF (valF a u) v := List.foldl_append
theorem ofNat_digit {c : UInt8} (h : isD c = true) : UInt8.ofNat (48 + (c.toNat - 48)) = c := by
 have := isD_iff.1 h
 apply UInt8.toNat_inj.1
 rw [UInt8.toNat_ofNat']
 omega
theorem digit_ofNat {d : Nat} (h : d < 10) : (UInt8.ofNat (48 + d)).toNat = 48 + d := by
 rw [UInt8.toNat_ofNat']
 omega
def plainNum (w : List UInt8) : Bool := w == [48] || w.head?.any (fun c => c != 48)
def L (s : ByteArray) : List UInt8 := s.data.toList
def blank (c : UInt8) : Bool := c == 32 || c == 9 || c == 10
def isLD (c : UInt8) : Bool := isL c || isD c
theorem isLD_L {c : UInt8} (h : isL c = true) : isLD c = true := by unfold isLD; rw [h]; rfl
theorem isLD_D {c : UInt8} (h : isD c = true) : isLD c = true := by unfold isLD; rw [h, Bool.or_true]
theorem isLD_no {c : UInt8} (h : isL c = false) (h2 : isD c = false) : isLD c = false := by unfold isLD; rw [h, h2]; rfl
structure Tok where
 kind : Int
 text : List UInt8
 num : Nat
 pos : Nat
def signs : List UInt8 := [61, 60, 43, 45, 42, 47, 37, 40, 41, 123, 125]
def numOk (w : List UInt8) : Bool := plainNum w && decide (val w < 9223372036854775808)
def tokAt (r : List UInt8) (p : Nat) : Option Tok := match r with
 | [] => none
 | c :: r' =>
  if isL c then (if (r.takeWhile isLD).length <= 12 then some ⟨1, r.takeWhile isLD, 0, p⟩ else none)
  else if isD c then (if numOk (r.takeWhile isD) then some ⟨2, r.takeWhile isD, val (r.takeWhile isD), p⟩ else none)
  else if signs.contains c then (if c = 61 /\ r'.head? = some 61 then some ⟨3, [61, 61], 0, p⟩ else some ⟨3, [c], 0, p⟩)
  else none
inductive LR where
 | ok (l : List Tok)
 | bad (p : Nat)
theorem dropWhile_le (f : UInt8 -> Bool) (r : List UInt8) : (r.dropWhile f).length <= r.length := by
 have h := congrArg List.length (List.takeWhile_append_dropWhile (p := f) (l := r))
 rw [List.length_append] at h
 omega
def lexR : List UInt8 -> Nat -> List Tok -> LR
 | [], p, acc => .ok acc
 | c :: r, p, acc =>
  if blank c then lexR r (p + 1) acc
  else if c = 35 then lexR (r.dropWhile (· != 10)) (p + 1 + (r.takeWhile (· != 10)).length) acc
  else match tokAt (c :: r) p with
   | none => .bad p
   | some t => lexR (r.drop (t.text.length - 1)) (p + t.text.length) (acc ++ [t])
termination_by l => l.length
decreasing_by
 ·simp
 ·have := dropWhile_le (· != 10) r; simp only [List.length_cons]; omega
 ·simp only [List.length_cons, List.length_drop]; omega
theorem lexR_nil (p : Nat) (acc : List Tok) : lexR [] p acc = .ok acc := by rw [lexR]
theorem lexR_blank {c : UInt8} {r : List UInt8} {p : Nat} {acc : List Tok} (h : blank c = true) : lexR (c :: r) p acc = lexR r (p + 1) acc := by rw [lexR, if_pos h]
theorem lexR_note {r : List UInt8} {p : Nat} {acc : List Tok} : lexR (35 :: r) p acc = lexR (r.dropWhile (· != 10)) (p + 1 + (r.takeWhile (· != 10)).length) acc := by
 rw [lexR, if_neg (by decide), if_pos rfl]
theorem lexR_tok {c : UInt8} {r : List UInt8} {p : Nat} {acc : List Tok} (h : blank c = false) (h2 : c ≠ 35) {t : Tok} (ht : tokAt (c :: r) p = some t) : lexR (c :: r) p acc = lexR (r.drop (t.text.length - 1)) (p + t.text.length) (acc ++ [t]) := by
 rw [lexR, if_neg (by rw [h]; simp), if_neg h2, ht]
theorem lexR_bad {c : UInt8} {r : List UInt8} {p : Nat} {acc : List Tok} (h : blank c = false) (h2 : c ≠ 35) (ht : tokAt (c :: r) p = none) : lexR (c :: r) p acc = .bad p := by
 rw [lexR, if_neg (by rw [h]; simp), if_neg h2, ht]
theorem lexR_blanks : ∀ (r : List UInt8) (p : Nat) (acc : List Tok), lexR r p acc = lexR (r.dropWhile blank) (p + (r.takeWhile blank).length) acc
 | [], p, acc => rfl
 | c :: r, p, acc => by
  cases h : blank c with
  | true =>
   rw [lexR_blank h, lexR_blanks r (p + 1) acc, List.dropWhile_cons_of_pos h, List.takeWhile_cons_of_pos h]
   congr 1
   simp only [List.length_cons]; omega
  | false =>
   rw [List.dropWhile_cons_of_neg (by rw [h]; simp), List.takeWhile_cons_of_neg (by rw [h]; simp)]
   rfl
theorem drop_takeWhile (f : UInt8 -> Bool) : ∀ (r : List UInt8), r.dropWhile f = r.drop (r.takeWhile f).length
 | [] => rfl
 | c :: r => by
  cases h : f c with
  | true => rw [List.dropWhile_cons_of_pos h, List.takeWhile_cons_of_pos h, drop_takeWhile f r]; rfl
  | false => rw [List.dropWhile_cons_of_neg (by rw [h]; simp), List.takeWhile_cons_of_neg (by rw [h]; simp)]; rfl
theorem take_takeWhile (f : UInt8 -> Bool) (r : List UInt8) : r.take (r.takeWhile f).length = r.takeWhile f :=
 (List.prefix_iff_eq_take.1 (List.takeWhile_prefix f)).symm
theorem size_L (s : ByteArray) : s.size = (L s).length := size_list s
theorem beq_byte (b c : UInt8) (k : Int) (h : ((c.toNat : Nat) : Int) = k) : ((((UInt8.toNat b : Nat) : Int) : Int) == k) = (b == c) := by
 apply Bool.eq_iff_iff.2
 rw [beq_iff_eq, beq_iff_eq, <- h]
 exact ⟨fun hh => UInt8.toNat_inj.1 (by omega), fun hh => by rw [hh]⟩
theorem bidx_at {s : ByteArray} {i : Nat} (h : i < (L s).length) : bidx true s (i : Int) = some (L s)[i] := by
 unfold bidx
 rw [decide_eq_true (show (0 : Int) <= (i : Int) by omega)]
 simp only [cond_true, Int.toNat_natCast]
 have h3 : i < s.size := by rw [size_L]; exact h
 rw [getElem?_pos s i h3]
 simp [L, ByteArray.getElem_eq_getElem_data]
theorem bidx_no {s : ByteArray} {i : Int} : bidx false s i = some 0 := rfl
theorem wrap_up {i : Nat} (h : i <= 281474976710656) : IntKind.wrap .i64 ((i : Int) + 1) = ((i + 1 : Nat) : Int) := by rw [wrap_id (by omega) (by omega)]; omega
theorem wrap_add {i j : Nat} (h : i <= 281474976710656) (h2 : j <= 281474976710656) : IntKind.wrap .i64 ((i : Int) + (j : Int)) = ((i + j : Nat) : Int) := by rw [wrap_id (by omega) (by omega)]; omega
theorem rletter_eq (n : Nat) (b : UInt8) : m_sutureref1_letter n ((UInt8.toNat b : Nat) : Int) = some (isL b) := by
 unfold m_sutureref1_letter isL
 congr 1
 by_cases h1 : 97 <= b.toNat
 ·rw [decide_eq_true (show ((UInt8.toNat b : Nat) : Int) ≥ 97 by omega), decide_eq_true h1]
  simp only [cond_true, Bool.true_and]
  by_cases h2 : b.toNat <= 122
  ·rw [decide_eq_true (show ((UInt8.toNat b : Nat) : Int) <= 122 by omega), decide_eq_true h2]
  ·rw [decide_eq_false (show ¬ ((UInt8.toNat b : Nat) : Int) <= 122 by omega), decide_eq_false h2]
 ·rw [decide_eq_false (show ¬ ((UInt8.toNat b : Nat) : Int) ≥ 97 by omega), decide_eq_false h1]; rfl
theorem rdigit_eq (n : Nat) (b : UInt8) : m_sutureref1_digit n ((UInt8.toNat b : Nat) : Int) = some (isD b) := by
 unfold m_sutureref1_digit isD
 congr 1
 by_cases h1 : 48 <= b.toNat
 ·rw [decide_eq_true (show ((UInt8.toNat b : Nat) : Int) ≥ 48 by omega), decide_eq_true h1]
  simp only [cond_true, Bool.true_and]
  by_cases h2 : b.toNat <= 57
  ·rw [decide_eq_true (show ((UInt8.toNat b : Nat) : Int) <= 57 by omega), decide_eq_true h2]
  ·rw [decide_eq_false (show ¬ ((UInt8.toNat b : Nat) : Int) <= 57 by omega), decide_eq_false h2]
 ·rw [decide_eq_false (show ¬ ((UInt8.toNat b : Nat) : Int) ≥ 48 by omega), decide_eq_false h1]; rfl
theorem rblank_eq (b : UInt8) : (bif (bif ((((UInt8.toNat b : Nat) : Int) : Int) == 32) then true else ((((UInt8.toNat b : Nat) : Int) : Int) == 9)) then true else ((((UInt8.toNat b : Nat) : Int) : Int) == 10)) = blank b := by
 unfold blank
 rw [beq_byte b 32 32 rfl, beq_byte b 9 9 rfl, beq_byte b 10 10 rfl]
 cases (b == 32) <;> cases (b == 9) <;> rfl
theorem scan {s : ByteArray} {f : UInt8 -> Bool} {l : Nat -> ByteArray × Int -> Option Int}
  (h : ∀ (m i : Nat), i <= (L s).length -> l (m + 1) (s, (i : Int)) = if ((L s)[i]?).any f = true then l m (s, ((i + 1 : Nat) : Int)) else some (i : Int)) :
  ∀ (m i : Nat), i <= (L s).length -> (L s).length - i < m -> l m (s, (i : Int)) = some ((i + (((L s).drop i).takeWhile f).length : Nat) : Int)
 | 0, i, _, hm => by omega
 | m + 1, i, hi, hm => by
  rw [h m i hi]
  by_cases hlt : i < (L s).length
  ·rw [List.drop_eq_getElem_cons hlt, List.getElem?_eq_getElem hlt]
   simp only [Option.any_some]
   by_cases hf : f (L s)[i] = true
   ·rw [if_pos hf, scan h m (i + 1) (by omega) (by omega), List.takeWhile_cons_of_pos hf]
    congr 2
    simp only [List.length_cons]; omega
   ·rw [if_neg hf, List.takeWhile_cons_of_neg hf]
    rfl
  ·rw [List.getElem?_eq_none (by omega), List.drop_eq_nil_of_le (by omega)]
   rfl
theorem bytes_eq (a b : ByteArray) : (ByteArray.toList a == ByteArray.toList b) = (L a == L b) := by
 have e : ∀ x : ByteArray, x.toList = L x := fun x => ByteArray.toList_eq x
 rw [e, e]
def wordLen (r : List UInt8) : Nat := match r with
 | [] => 0
 | c :: _ => if isL c = true /\ (r.takeWhile isLD).length <= 12 then (r.takeWhile isLD).length else 0
theorem scanG {S O : Type} {Ls : List UInt8} {f : UInt8 -> Bool} {l : Nat -> S -> Option O} (st : Nat -> S) (out : Nat -> O)
  (h : ∀ (m i : Nat), i <= Ls.length -> l (m + 1) (st i) = if (Ls[i]?).any f = true then l m (st (i + 1)) else some (out i)) :
  ∀ (m i : Nat), i <= Ls.length -> Ls.length - i < m -> l m (st i) = some (out (i + ((Ls.drop i).takeWhile f).length))
 | 0, i, _, hm => by omega
 | m + 1, i, hi, hm => by
  rw [h m i hi]
  by_cases hlt : i < Ls.length
  ·rw [List.drop_eq_getElem_cons hlt, List.getElem?_eq_getElem hlt]
   simp only [Option.any_some]
   by_cases hf : f Ls[i] = true
   ·rw [if_pos hf, scanG st out h m (i + 1) (by omega) (by omega), List.takeWhile_cons_of_pos hf]
    congr 2
    simp only [List.length_cons]; omega
   ·rw [if_neg hf, List.takeWhile_cons_of_neg hf]
    rfl
  ·rw [List.getElem?_eq_none (by omega), List.drop_eq_nil_of_le (by omega)]
   rfl
abbrev B (l : List UInt8) : ByteArray := ⟨l.toArray⟩
theorem L_B (l : List UInt8) : L (B l) = l := by simp [L, B]
theorem B_L (s : ByteArray) : B (L s) = s := by simp [L, B]
theorem ext_B (s : ByteArray) (i k : Nat) : s.extract i k = B (((L s).drop i).take (k - i)) := by
 rw [<- B_L (s.extract i k)]
 congr 1
 exact extract_list s i k
section
variable {s : ByteArray} {n : Nat} (hs : (L s).length <= 6000)
include hs
theorem one4_body (k : ByteArray × Int × Int × Int × ByteArray × Int × Int -> Option (ByteArray × Int × Int × Int × ByteArray × Int × Int)) {i : Nat} (hi : i <= (L s).length) (s1 s3 s5 s6 : Int) (s4 : ByteArray) :
  l_sutureref1_one_4_B n k (s, s1, ((i : Nat) : Int), s3, s4, s5, s6) = if ((L s)[i]?).any isLD = true then k (s, s1, ((i + 1 : Nat) : Int), s3, s4, s5, s6) else some (s, s1, (i : Int), s3, s4, s5, s6) := by
 unfold l_sutureref1_one_4_B
 simp only
 by_cases hlt : i < (L s).length
 ·have h1 : decide ((i : Int) < ((ByteArray.size s : Nat) : Int)) = true := by rw [decide_eq_true_eq, size_L]; omega
  simp only [h1, bidx_at hlt, List.getElem?_eq_getElem hlt, Option.bind_some, cond_true, rletter_eq, Option.any_some, wrap_up (show i <= 281474976710656 by omega), Bool.true_and]
  cases hl : isL (L s)[i] with
  | true => simp only [Bool.not_true, cond_false, Option.bind_some, bidx_no, cond_true]; rw [if_pos (isLD_L hl)]
  | false =>
   simp only [Bool.not_false, bidx_at hlt, Option.bind_some, cond_true, rdigit_eq, cond_false]
   by_cases hd : isD (L s)[i] = true
   ·rw [hd, if_pos (isLD_D hd)]; rfl
   ·rw [(Bool.not_eq_true _).mp hd, if_neg (by rw [isLD_no hl ((Bool.not_eq_true _).mp hd)]; simp)]; rfl
 ·have h1 : decide ((i : Int) < ((ByteArray.size s : Nat) : Int)) = false := by rw [decide_eq_false_iff_not, size_L]; omega
  simp only [h1, bidx_no, Option.bind_some, cond_false, Bool.false_and]
  rw [List.getElem?_eq_none (by omega)]
  rfl
theorem one10_body (k : ByteArray × Int × Int × Int × ByteArray × Int × Int -> Option (ByteArray × Int × Int × Int × ByteArray × Int × Int)) {i : Nat} (hi : i <= (L s).length) (s1 s3 s5 s6 : Int) (s4 : ByteArray) :
  l_sutureref1_one_10_B n k (s, s1, ((i : Nat) : Int), s3, s4, s5, s6) = if ((L s)[i]?).any isD = true then k (s, s1, ((i + 1 : Nat) : Int), s3, s4, s5, s6) else some (s, s1, (i : Int), s3, s4, s5, s6) := by
 unfold l_sutureref1_one_10_B
 simp only
 by_cases hlt : i < (L s).length
 ·have h1 : decide ((i : Int) < ((ByteArray.size s : Nat) : Int)) = true := by rw [decide_eq_true_eq, size_L]; omega
  simp only [h1, bidx_at hlt, List.getElem?_eq_getElem hlt, Option.bind_some, cond_true, rdigit_eq, Option.any_some, wrap_up (show i <= 281474976710656 by omega)]
  by_cases hd : isD (L s)[i] = true
  ·rw [hd, if_pos rfl]; rfl
  ·rw [(Bool.not_eq_true _).mp hd, if_neg (by simp)]; rfl
 ·have h1 : decide ((i : Int) < ((ByteArray.size s : Nat) : Int)) = false := by rw [decide_eq_false_iff_not, size_L]; omega
  simp only [h1, bidx_no, Option.bind_some, cond_false]
  rw [List.getElem?_eq_none (by omega)]
  rfl
theorem one4 (hn : 6001 < n) {i : Nat} (hi : i <= (L s).length) (s1 s3 s5 s6 : Int) (s4 : ByteArray) :
  l_sutureref1_one_4 n n (s, s1, (i : Int), s3, s4, s5, s6) = some (s, s1, ((i + (((L s).drop i).takeWhile isLD).length : Nat) : Int), s3, s4, s5, s6) :=
 scanG (l := l_sutureref1_one_4 n) (fun i => (s, s1, ((i : Nat) : Int), s3, s4, s5, s6)) (fun i => (s, s1, ((i : Nat) : Int), s3, s4, s5, s6)) (fun m i hi => one4_body hs (l_sutureref1_one_4 n m) hi s1 s3 s5 s6 s4) n i hi (by omega)
theorem one10 (hn : 6001 < n) {i : Nat} (hi : i <= (L s).length) (s1 s3 s5 s6 : Int) (s4 : ByteArray) :
  l_sutureref1_one_10 n n (s, s1, (i : Int), s3, s4, s5, s6) = some (s, s1, ((i + (((L s).drop i).takeWhile isD).length : Nat) : Int), s3, s4, s5, s6) :=
 scanG (l := l_sutureref1_one_10 n) (fun i => (s, s1, ((i : Nat) : Int), s3, s4, s5, s6)) (fun i => (s, s1, ((i : Nat) : Int), s3, s4, s5, s6)) (fun m i hi => one10_body hs (l_sutureref1_one_10 n m) hi s1 s3 s5 s6 s4) n i hi (by omega)
end
theorem num_digit {c : UInt8} (h : isD c = true) : IntKind.wrap .i64 (IntKind.wrap .u8 (((UInt8.toNat c : Nat) : Int) - 48)) = ((c.toNat - 48 : Nat) : Int) := by
 have h1 := isD_iff.1 h
 have e : IntKind.wrap .u8 (((UInt8.toNat c : Nat) : Int) - 48) = ((c.toNat - 48 : Nat) : Int) := by
  have : ∀ x : Int, IntKind.wrap .u8 x = x % 256 := by
   intro x
   show (if (false && decide (x % (2 ^ 8 : Int) ≥ (2 ^ 7 : Int))) = true then x % (2 ^ 8 : Int) - (2 ^ 8 : Int) else x % (2 ^ 8 : Int)) = _
   simp
  rw [this]; omega
 rw [e, wrap_id (by omega) (by omega)]
theorem num_loop {s : ByteArray} {n : Nat} (hs : (L s).length <= 6000) (hd : ∀ c ∈ L s, isD c = true) : ∀ (m i a : Nat), i <= (L s).length -> (L s).length - i < m -> a <= 9223372036854775807 →
  l_sutureref1_number_3 n m (s, (a : Int), (i : Int)) = if valF a ((L s).drop i) <= 9223372036854775807 then some (.inr (s, ((valF a ((L s).drop i) : Nat) : Int))) else some (.inl (0, false))
 | 0, i, a, _, hm, _ => by omega
 | m + 1, i, a, hi, hm, ha => by
  rw [l_sutureref1_number_3]
  unfold l_sutureref1_number_3_B
  simp only
  by_cases hlt : i < (L s).length
  ·have h1 : decide ((i : Int) < ((ByteArray.size s : Nat) : Int)) = true := by rw [decide_eq_true_eq, size_L]; omega
   have hc := hd _ (List.getElem_mem hlt)
   have hc1 := isD_iff.1 hc
   have hle := valF_le ((L s).drop (i + 1)) (10 * a + ((L s)[i].toNat - 48))
   have hw : IntKind.wrap .i64 (9223372036854775807 - (((L s)[i].toNat - 48 : Nat) : Int)) = 9223372036854775807 - (((L s)[i].toNat - 48 : Nat) : Int) := wrap_id (by omega) (by omega)
   have hq : Int.tdiv (9223372036854775807 - (((L s)[i].toNat - 48 : Nat) : Int)) 10 = (9223372036854775807 - (((L s)[i].toNat - 48 : Nat) : Int)) / 10 := Int.tdiv_eq_ediv_of_nonneg (by omega)
   simp only [h1, cond_true, bidx_at hlt, Option.bind_some, num_digit hc, hw, hq, must]
   rw [wrap_id (show -9223372036854775808 <= (9223372036854775807 - (((L s)[i].toNat - 48 : Nat) : Int)) / 10 by omega) (by omega)]
   rw [List.drop_eq_getElem_cons hlt, valF_cons]
   by_cases hov : (a : Int) > (9223372036854775807 - (((L s)[i].toNat - 48 : Nat) : Int)) / 10
   ·rw [decide_eq_true hov, if_neg (by omega)]
    rfl
   ·rw [decide_eq_false hov]
    simp only [Bool.not_false, Bool.not_true, Bool.and_false, cond_false, show (decide ((10 : Int) = 0)) = false from rfl]
    rw [wrap_id (show -9223372036854775808 <= 10 * (a : Int) by omega) (by omega)]
    rw [wrap_id (show -9223372036854775808 <= 10 * (a : Int) + (((L s)[i].toNat - 48 : Nat) : Int) by omega) (by omega), wrap_up (show i <= 281474976710656 by omega)]
    rw [show 10 * (a : Int) + (((L s)[i].toNat - 48 : Nat) : Int) = ((10 * a + ((L s)[i].toNat - 48) : Nat) : Int) by omega]
    exact num_loop hs hd m (i + 1) _ (by omega) (by omega) (by omega)
  ·have h1 : decide ((i : Int) < ((ByteArray.size s : Nat) : Int)) = false := by rw [decide_eq_false_iff_not, size_L]; omega
   simp only [h1, cond_false]
   rw [List.drop_eq_nil_of_le (by omega), valF_nil, if_pos ha]
theorem number_eq {s : ByteArray} {n : Nat} (hs : (L s).length <= 6000) (hn : 6001 < n) (hd : ∀ c ∈ L s, isD c = true) (h0 : L s ≠ []) :
  m_sutureref1_number n s = if val (L s) < 9223372036854775808 then some ((val (L s) : Int), plainNum (L s)) else some (0, false) := by
 unfold m_sutureref1_number
 have h := num_loop (n := n) hs hd n 0 0 (by omega) (by omega) (by omega)
 rw [show (((0 : Nat) : Nat) : Int) = 0 from rfl] at h
 rw [h]
 simp only [List.drop_zero]
 show Option.bind (if val (L s) <= 9223372036854775807 then _ else _) _ = _
 by_cases hv : val (L s) < 9223372036854775808
 ·rw [if_pos (by omega), if_pos hv]
  simp only [Option.bind_some, Sum.elim_inr, bytes_eq]
  have e0 : L (⟨#[]⟩ : ByteArray) = [] := rfl
  have e1 : L (⟨#[48]⟩ : ByteArray) = [48] := rfl
  rw [e0, e1]
  cases hl : L s with
  | nil => exact absurd hl h0
  | cons c r =>
   have hne : (c :: r == ([] : List UInt8)) = false := rfl
   have hb : bidx true s 0 = some c := by
    have := bidx_at (s := s) (i := 0) (by rw [hl]; simp)
    simpa [hl] using this
   simp only [hne, Bool.not_false, hb, Option.bind_some, cond_true, bne, beq_byte c 48 48 rfl]
   have : (valF 0 (c :: r) : Int) = (val (c :: r) : Int) := rfl
   rw [this]
   congr 2
   unfold plainNum
   simp only [List.head?_cons, Option.any_some, bne]
   cases (c == 48) <;> cases (c :: r == [48]) <;> rfl
 ·rw [if_neg (by omega), if_neg hv]
  rfl
theorem L_signs : L (⟨#[61, 60, 43, 45, 42, 47, 37, 40, 41, 123, 125]⟩ : ByteArray) = signs := rfl
theorem sign_loop {s : ByteArray} {n : Nat} {p : Nat} (hp : p < (L s).length) (hs : (L s).length <= 6000) (c : UInt8) (s5 s7 s8 : Int) (s6 : ByteArray) : ∀ (m i : Nat), i <= 11 -> 11 - i < m →
  l_sutureref1_one_19 n m (s, (p : Int), ((UInt8.toNat c : Nat) : Int), ((p + 1 : Nat) : Int), (i : Int), s5, s6, s7, s8) =
   if (signs.drop i).contains c then some (.inl (1, 3, B (((L s).drop p).take 1), 0, (p : Int))) else some (.inr (s5, s6, s7, s8))
 | 0, i, _, hm => by omega
 | m + 1, i, hi, hm => by
  rw [l_sutureref1_one_19]
  unfold l_sutureref1_one_19_B
  simp only
  by_cases hlt : i < 11
  ·rw [decide_eq_true (show ((i : Nat) : Int) < 11 by omega)]
   have hl : i < (L (⟨#[61, 60, 43, 45, 42, 47, 37, 40, 41, 123, 125]⟩ : ByteArray)).length := by rw [L_signs]; exact hlt
   have hl2 : i < signs.length := hlt
   rw [List.drop_eq_getElem_cons hl2, List.contains_cons]
   simp only [cond_true, bidx_at hl, Option.bind_some]
   rw [beq_byte (L (⟨#[61, 60, 43, 45, 42, 47, 37, 40, 41, 123, 125]⟩ : ByteArray))[i] c _ rfl]
   have hsame : (L (⟨#[61, 60, 43, 45, 42, 47, 37, 40, 41, 123, 125]⟩ : ByteArray))[i] = signs[i] := rfl
   rw [hsame]
   by_cases hc : signs[i] = c
   ·rw [beq_iff_eq.2 hc, beq_iff_eq.2 hc.symm]
    simp only [cond_true, Bool.true_or, if_true, Int.toNat_natCast]
    rw [must_eq (by simp only [Bool.and_eq_true, decide_eq_true_eq, size_L]; omega), ext_B]
    rw [show p + 1 - p = 1 by omega]
   ·rw [beq_eq_false_iff_ne.2 hc, beq_eq_false_iff_ne.2 (Ne.symm hc)]
    simp only [cond_false, Bool.false_or]
    rw [wrap_up (show i <= 281474976710656 by omega)]
    exact sign_loop hp hs c s5 s7 s8 s6 m (i + 1) (by omega) (by omega)
  ·rw [decide_eq_false (show ¬ ((i : Nat) : Int) < 11 by omega)]
   have : signs.drop i = [] := List.drop_eq_nil_of_le (by show 11 <= i; omega)
   rw [this]
   rfl
def oneR (p : Nat) : Option Tok -> Int × ByteArray × Int × Int × Int
 | none => (0, ⟨#[]⟩, 0, 0, 0)
 | some t => (t.kind, B t.text, (t.num : Int), (p : Int), (t.text.length : Int))
theorem one_eq {s : ByteArray} {n p : Nat} (hp : p < (L s).length) (hs : (L s).length <= 6000) (hn : 6001 < n) : m_sutureref1_one n s (p : Int) = some (oneR p (tokAt ((L s).drop p) p)) := by
 unfold m_sutureref1_one
 simp only [bidx_at hp, Option.bind_some, rletter_eq, rdigit_eq, wrap_up (show p <= 281474976710656 by omega)]
 have hdrop := List.drop_eq_getElem_cons hp
 have htw : ∀ (f : UInt8 -> Bool), f (L s)[p] = true -> (((L s).drop p).takeWhile f) = (L s)[p] :: (((L s).drop (p + 1)).takeWhile f) := by
  intro f hf
  rw [hdrop, List.takeWhile_cons_of_pos hf]
 have hlen : ∀ (f : UInt8 -> Bool), (((L s).drop (p + 1)).takeWhile f).length <= (L s).length - (p + 1) := by
  intro f
  have := (List.takeWhile_prefix f (l := (L s).drop (p + 1))).length_le
  rw [List.length_drop] at this
  exact this
 have hext : ∀ (f : UInt8 -> Bool), f (L s)[p] = true -> s.extract p (p + 1 + (((L s).drop (p + 1)).takeWhile f).length) = B (((L s).drop p).takeWhile f) := by
  intro f hf
  rw [ext_B, show p + 1 + (((L s).drop (p + 1)).takeWhile f).length - p = (((L s).drop p).takeWhile f).length by rw [htw f hf, List.length_cons]; omega, take_takeWhile]
 cases hl : isL (L s)[p] with
 | true =>
  have hLD : isLD (L s)[p] = true := isLD_L hl
  have h1 := hlen isLD
  simp only [cond_true, one4 hs hn (show p + 1 <= (L s).length by omega), Option.bind_some]
  rw [show ((p + 1 + (((L s).drop (p + 1)).takeWhile isLD).length : Nat) : Int) - (p : Int) = (((((L s).drop p).takeWhile isLD).length : Nat) : Int) by rw [htw _ hLD, List.length_cons]; omega]
  rw [wrap_id (by omega) (by rw [htw _ hLD, List.length_cons]; omega)]
  rw [hdrop]
  simp only [tokAt, hl, if_true]
  rw [<- hdrop]
  by_cases h12 : (((L s).drop p).takeWhile isLD).length <= 12
  ·rw [decide_eq_false (by omega), if_pos h12]
   simp only [cond_false, Int.toNat_natCast]
   rw [must_eq (by simp only [Bool.and_eq_true, decide_eq_true_eq, size_L]; omega), hext _ hLD]
   rfl
  ·rw [decide_eq_true (by omega), if_neg h12]
   rfl
 | false =>
  simp only [cond_false]
  cases hd : isD (L s)[p] with
  | true =>
   have h1 := hlen isD
   simp only [cond_true, one10 hs hn (show p + 1 <= (L s).length by omega), Option.bind_some, Int.toNat_natCast]
   rw [must_eq (by simp only [Bool.and_eq_true, decide_eq_true_eq, size_L]; omega), hext _ hd]
   have hLw : L (B (((L s).drop p).takeWhile isD)) = ((L s).drop p).takeWhile isD := L_B _
   have hne : ((L s).drop p).takeWhile isD ≠ [] := by rw [htw _ hd]; simp
   have hall : ∀ c ∈ ((L s).drop p).takeWhile isD, isD c = true := fun c hc => List.all_eq_true.1 (List.all_takeWhile (p := isD) (l := (L s).drop p)) c hc
   rw [number_eq (by rw [hLw, htw _ hd, List.length_cons]; omega) hn (by rw [hLw]; exact hall) (by rw [hLw]; exact hne), hLw]
   have htok : tokAt ((L s).drop p) p = if numOk (((L s).drop p).takeWhile isD) then some ⟨2, ((L s).drop p).takeWhile isD, val (((L s).drop p).takeWhile isD), p⟩ else none := by
    conv => lhs; rw [hdrop]
    simp only [tokAt, hl, hd, if_true, Bool.false_eq_true, if_false]
    rw [<- hdrop]
   rw [htok]
   unfold numOk
   by_cases hv : val (((L s).drop p).takeWhile isD) < 9223372036854775808
   ·rw [if_pos hv, decide_eq_true hv, Bool.and_true]
    simp only [Option.bind_some]
    cases hpn : plainNum (((L s).drop p).takeWhile isD) with
    | false => rfl
    | true =>
     simp only [Bool.not_true, cond_false, if_true]
     rw [must_eq (by simp only [Bool.and_eq_true, decide_eq_true_eq, size_L]; omega)]
     rw [show ((p + 1 + (((L s).drop (p + 1)).takeWhile isD).length : Nat) : Int) - (p : Int) = (((((L s).drop p).takeWhile isD).length : Nat) : Int) by rw [htw _ hd, List.length_cons]; omega]
     rw [wrap_id (by omega) (by rw [htw _ hd, List.length_cons]; omega)]
     rfl
   ·rw [if_neg hv, decide_eq_false hv, Bool.and_false]
    rfl
  | false =>
   simp only [cond_false, beq_byte (L s)[p] 61 61 rfl]
   have htok : tokAt ((L s).drop p) p = if signs.contains (L s)[p] then (if (L s)[p] = 61 /\ ((L s).drop (p + 1)).head? = some 61 then some ⟨3, [61, 61], 0, p⟩ else some ⟨3, [(L s)[p]], 0, p⟩) else none := by
    conv => lhs; rw [hdrop]
    simp only [tokAt, hl, hd, Bool.false_eq_true, if_false]
   have hsl := sign_loop (n := n) hp hs (L s)[p] 0 0 0 ⟨#[]⟩ n 0 (by omega) (by omega)
   have htake : ((L s).drop p).take 1 = [(L s)[p]] := by rw [hdrop]; rfl
   rw [htake] at hsl
   rw [show (((0 : Nat) : Nat) : Int) = 0 from rfl] at hsl
   simp only [List.drop_zero] at hsl
   have hrest : ∀ hq : ¬ ((L s)[p] = 61 /\ ((L s).drop (p + 1)).head? = some 61), (Option.bind (l_sutureref1_one_19 n n (s, (p : Int), ((UInt8.toNat (L s)[p] : Nat) : Int), ((p + 1 : Nat) : Int), 0, 0, (⟨#[]⟩ : ByteArray), 0, 0)) fun x16 =>
     Sum.elim (fun p17 => some (p17.2.1, p17.2.2.1, p17.2.2.2.1, p17.2.2.2.2, p17.1)) (fun x16' => (fun p18 => some (0, (⟨#[]⟩ : ByteArray), 0, 0, 0)) x16') x16) = some (oneR p (tokAt ((L s).drop p) p)) := by
    intro hq
    rw [hsl, htok]
    cases hcon : signs.contains (L s)[p] with
    | false => rfl
    | true => rw [if_pos rfl, if_neg hq]; rfl
   by_cases h61 : (L s)[p] = 61
   ·rw [beq_iff_eq.2 h61]
    simp only [cond_true]
    by_cases hlt : p + 1 < (L s).length
    ·rw [decide_eq_true (show ((p + 1 : Nat) : Int) < ((ByteArray.size s : Nat) : Int) by rw [size_L]; omega)]
     simp only [bidx_at hlt, Option.bind_some, cond_true, beq_byte (L s)[p + 1] 61 61 rfl]
     by_cases h2 : (L s)[p + 1] = 61
     ·rw [beq_iff_eq.2 h2, htok, h61]
      rw [if_pos (by decide), if_pos ⟨rfl, by rw [List.drop_eq_getElem_cons hlt]; simp [h2]⟩]
      rfl
     ·rw [beq_eq_false_iff_ne.2 h2]
      simp only [cond_false]
      exact hrest (by rintro ⟨_, h3⟩; rw [List.drop_eq_getElem_cons hlt] at h3; simp at h3; rw [List.getElem?_eq_getElem hlt] at h3; exact h2 (Option.some.inj h3))
    ·rw [decide_eq_false (show ¬ ((p + 1 : Nat) : Int) < ((ByteArray.size s : Nat) : Int) by rw [size_L]; omega)]
     simp only [bidx_no, Option.bind_some, cond_false]
     exact hrest (by rintro ⟨_, h3⟩; rw [List.drop_eq_nil_of_le (by omega)] at h3; simp at h3)
   ·rw [beq_eq_false_iff_ne.2 h61]
    simp only [cond_false, bidx_no, Option.bind_some]
    exact hrest (fun h => h61 h.1)
def encR (t : Tok) : T := T.agg [(T.sc (.int .i64 t.kind)), (T.sc (.string (B t.text))), (T.sc (.int .i64 (t.num : Int))), (T.sc (.int .i64 (t.pos : Int)))]
theorem tokAt_pos {r : List UInt8} {p : Nat} {t : Tok} (h : tokAt r p = some t) : t.pos = p /\ 1 <= t.text.length /\ t.text.length <= r.length /\ t.text = r.take t.text.length := by
 have hpre : ∀ (f : UInt8 -> Bool) (c : UInt8) (r' : List UInt8), f c = true -> 1 <= ((c :: r').takeWhile f).length /\ ((c :: r').takeWhile f).length <= (c :: r').length := by
  intro f c r' hf
  refine ⟨by rw [List.takeWhile_cons_of_pos hf]; simp, (List.takeWhile_prefix f).length_le⟩
 unfold tokAt at h
 cases r with
 | nil => cases h
 | cons c r' =>
  simp only at h
  split at h
  ·rename_i hl
   split at h
   ·simp only [Option.some.injEq] at h
    subst h
    have := hpre isLD c r' (isLD_L hl)
    exact ⟨rfl, this.1, this.2, (take_takeWhile _ _).symm⟩
   ·cases h
  ·split at h
   ·rename_i hd
    split at h
    ·simp only [Option.some.injEq] at h
     subst h
     have := hpre isD c r' hd
     exact ⟨rfl, this.1, this.2, (take_takeWhile _ _).symm⟩
    ·cases h
   ·split at h
    ·split at h
     ·rename_i hq
      simp only [Option.some.injEq] at h
      subst h
      obtain ⟨rfl, h2⟩ := hq
      cases r' with
      | nil => simp at h2
      | cons d r2 => simp at h2; subst h2; exact ⟨rfl, by simp, by simp, rfl⟩
     ·simp only [Option.some.injEq] at h
      subst h
      exact ⟨rfl, by simp, by simp, rfl⟩
    ·cases h
theorem lexR_acc : ∀ (k : Nat) (r : List UInt8) (p : Nat) (acc : List Tok), r.length <= k -> lexR r p acc = match lexR r p [] with
  | .ok l => .ok (acc ++ l)
  | .bad q => .bad q := by
 intro k
 induction k with
 | zero =>
  intro r p acc hr
  have : r = [] := List.length_eq_zero_iff.1 (by omega)
  subst this
  rw [lexR_nil, lexR_nil]; simp
 | succ k ih =>
  intro r p acc hr
  cases r with
  | nil => rw [lexR_nil, lexR_nil]; simp
  | cons c r =>
   simp only [List.length_cons] at hr
   cases hb : blank c with
   | true => rw [lexR_blank hb, lexR_blank hb, ih r _ acc (by omega)]
   | false =>
    by_cases h35 : c = 35
    ·subst h35
     have := dropWhile_le (· != 10) r
     rw [lexR_note, lexR_note, ih _ _ acc (by omega)]
    ·cases ht : tokAt (c :: r) p with
     | none => rw [lexR_bad hb h35 ht, lexR_bad hb h35 ht]
     | some t =>
      rw [lexR_tok hb h35 ht, lexR_tok hb h35 ht, ih _ _ (acc ++ [t]) (by rw [List.length_drop]; omega), ih _ _ ([] ++ [t]) (by rw [List.length_drop]; omega)]
      cases lexR (r.drop (t.text.length - 1)) (p + t.text.length) [] with
      | ok l => simp
      | bad q => rfl
theorem lexR_len : ∀ (k : Nat) (r : List UInt8) (p : Nat) (acc l : List Tok), r.length <= k -> lexR r p acc = .ok l -> l.length <= acc.length + r.length := by
 intro k
 induction k with
 | zero =>
  intro r p acc l hr h
  have : r = [] := List.length_eq_zero_iff.1 (by omega)
  subst this
  rw [lexR_nil] at h; cases h; simp
 | succ k ih =>
  intro r p acc l hr h
  cases r with
  | nil => rw [lexR_nil] at h; cases h; simp
  | cons c r =>
   simp only [List.length_cons] at hr ⊢
   cases hb : blank c with
   | true => rw [lexR_blank hb] at h; have := ih r _ acc l (by omega) h; omega
   | false =>
    by_cases h35 : c = 35
    ·subst h35
     have h0 := dropWhile_le (· != 10) r
     rw [lexR_note] at h
     have := ih _ _ acc l (by omega) h
     omega
    ·cases ht : tokAt (c :: r) p with
     | none => rw [lexR_bad hb h35 ht] at h; cases h
     | some t =>
      rw [lexR_tok hb h35 ht] at h
      have := ih _ _ (acc ++ [t]) l (by rw [List.length_drop]; omega) h
      rw [List.length_append, List.length_drop] at this
      simp only [List.length_cons, List.length_nil] at this
      omega
theorem sized4_R (l : List Tok) (x : Tok) : sized 4 [encR x] = true := rfl
section
variable {s : ByteArray} {n : Nat}
theorem note_body (hs : (L s).length <= 6000) (k : ByteArray × (List T) × Int -> Option (ByteArray × (List T) × Int)) {i : Nat} (hi : i <= (L s).length) (a : List T) :
  l_sutureref1_Tokens_10_B n k (s, a, (i : Int)) = if ((L s)[i]?).any (· != 10) = true then k (s, a, ((i + 1 : Nat) : Int)) else some (s, a, (i : Int)) := by
 unfold l_sutureref1_Tokens_10_B
 simp only
 by_cases hlt : i < (L s).length
 ·have h1 : decide ((i : Int) < ((ByteArray.size s : Nat) : Int)) = true := by rw [decide_eq_true_eq, size_L]; omega
  simp only [h1, bidx_at hlt, List.getElem?_eq_getElem hlt, Option.bind_some, cond_true, Option.any_some, wrap_up (show i <= 281474976710656 by omega), bne, beq_byte (L s)[i] 10 10 rfl]
  cases ((L s)[i] == 10) <;> rfl
 ·have h1 : decide ((i : Int) < ((ByteArray.size s : Nat) : Int)) = false := by rw [decide_eq_false_iff_not, size_L]; omega
  simp only [h1, bidx_no, Option.bind_some, cond_false]
  rw [List.getElem?_eq_none (by omega)]
  rfl
theorem note_eq (hs : (L s).length <= 6000) (hn : 6001 < n) {i : Nat} (hi : i <= (L s).length) (a : List T) :
  l_sutureref1_Tokens_10 n n (s, a, (i : Int)) = some (s, a, ((i + (((L s).drop i).takeWhile (· != 10)).length : Nat) : Int)) :=
 scanG (l := l_sutureref1_Tokens_10 n) (fun i => (s, a, ((i : Nat) : Int))) (fun i => (s, a, ((i : Nat) : Int))) (fun m i hi => note_body hs (l_sutureref1_Tokens_10 n m) hi a) n i hi (by omega)
def outR (s : ByteArray) : LR -> Option ((((List T) × Int × Int) ⊕ (List T) × Int))
 | .ok l => some (.inr (l.map encR, ((L s).length : Int)))
 | .bad q => some (.inl ([], (q : Int), 2))
theorem tokens_loop (hs : (L s).length <= 6000) (hn : 6001 < n) : ∀ (m p : Nat) (acc : List Tok), p <= (L s).length -> (L s).length - p < m -> acc.length <= p →
  l_sutureref1_Tokens_5 n m (s, acc.map encR, (p : Int)) = outR s (lexR ((L s).drop p) p acc)
 | 0, p, acc, _, hm, _ => by omega
 | m + 1, p, acc, hp, hm, ha => by
  rw [l_sutureref1_Tokens_5]
  unfold l_sutureref1_Tokens_5_B
  simp only
  by_cases hlt : p < (L s).length
  ·have h1 : decide ((p : Int) < ((ByteArray.size s : Nat) : Int)) = true := by rw [decide_eq_true_eq, size_L]; omega
   have hdrop := List.drop_eq_getElem_cons hlt
   have hbl : (bif (bif ((((UInt8.toNat (L s)[p] : Nat) : Int) : Int) == 32) then true else ((((UInt8.toNat (L s)[p] : Nat) : Int) : Int) == 9)) then true else ((((UInt8.toNat (L s)[p] : Nat) : Int) : Int) == 10)) = blank (L s)[p] := by
    exact rblank_eq (L s)[p]
   simp only [h1, cond_true, bidx_at hlt, Option.bind_some, hbl]
   cases hb : blank (L s)[p] with
   | true =>
    simp only [cond_true]
    rw [wrap_up (show p <= 281474976710656 by omega), tokens_loop hs hn m (p + 1) acc (by omega) (by omega) (by omega), hdrop, lexR_blank hb]
   | false =>
    simp only [cond_false, beq_byte (L s)[p] 35 35 rfl]
    by_cases h35 : (L s)[p] = 35
    ·rw [beq_iff_eq.2 h35]
     simp only [cond_true]
     rw [note_eq hs hn hp]
     simp only [Option.bind_some]
     have htw : (((L s).drop p).takeWhile (· != 10)) = 35 :: (((L s).drop (p + 1)).takeWhile (· != 10)) := by
      rw [hdrop, h35, List.takeWhile_cons_of_pos (by decide)]
     have hlen := (List.takeWhile_prefix (· != 10) (l := (L s).drop (p + 1))).length_le
     rw [List.length_drop] at hlen
     rw [htw, List.length_cons, tokens_loop hs hn m _ acc (by omega) (by omega) (by omega), hdrop, h35, lexR_note]
     congr 2
     ·rw [drop_takeWhile, List.drop_drop]
      congr 1; omega
     ·omega
    ·rw [beq_eq_false_iff_ne.2 h35]
     simp only [cond_false]
     rw [one_eq hlt hs hn]
     simp only [Option.bind_some]
     cases ht : tokAt ((L s).drop p) p with
     | none =>
      simp only [oneR, BEq.rfl, cond_true]
      rw [hdrop] at ht ⊢
      rw [lexR_bad hb h35 ht]
      rfl
     | some t =>
      obtain ⟨h2, h3, h4, h5⟩ := tokAt_pos ht
      rw [List.length_drop] at h4
      simp only [oneR]
      rw [beq_eq_false_iff_ne.2 (show ((t.text.length : Nat) : Int) ≠ 0 by omega)]
      simp only [cond_false]
      rw [must_eq (by simp only [List.length_map, List.length_cons, List.length_nil, Bool.and_eq_true, decide_eq_true_eq]; exact ⟨rfl, by omega, rfl⟩)]
      rw [wrap_add (show p <= 281474976710656 by omega) (by omega)]
      have e : acc.map encR ++ [T.agg [(T.sc (.int .i64 t.kind)), (T.sc (.string (B t.text))), (T.sc (.int .i64 (t.num : Int))), (T.sc (.int .i64 (p : Int)))]] = (acc ++ [t]).map encR := by
       rw [List.map_append]; simp only [List.map_cons, List.map_nil, encR, h2]
      rw [e, tokens_loop hs hn m _ (acc ++ [t]) (by omega) (by omega) (by rw [List.length_append]; simp only [List.length_cons, List.length_nil]; omega)]
      rw [hdrop] at ht ⊢
      rw [lexR_tok hb h35 ht]
      congr 2
      rw [List.drop_drop]
      congr 1; omega
  ·have h1 : decide ((p : Int) < ((ByteArray.size s : Nat) : Int)) = false := by rw [decide_eq_false_iff_not, size_L]; omega
   simp only [h1, cond_false]
   rw [List.drop_eq_nil_of_le (by omega), lexR_nil]
   have : p = (L s).length := by omega
   subst this
   rfl
def toksR (s : ByteArray) : List T × Int × Int :=
 if 6000 < (L s).length then ([], 6000, 2) else match lexR (L s) 0 [] with
 | .ok l => ((l ++ [(⟨4, [], 0, (L s).length⟩ : Tok)]).map encR, 0, 0)
 | .bad q => ([], (q : Int), 2)
theorem tokensR_eq (hn : 6001 < n) : m_sutureref1_Tokens n s = some (toksR s) := by
 unfold m_sutureref1_Tokens toksR
 by_cases h : 6000 < (L s).length
 ·rw [decide_eq_true (show ((ByteArray.size s : Nat) : Int) > 6000 by rw [size_L]; omega), if_pos h]
  rfl
 ·rw [decide_eq_false (show ¬ ((ByteArray.size s : Nat) : Int) > 6000 by rw [size_L]; omega), if_neg h]
  have hl := tokens_loop (s := s) (n := n) (by omega) hn n 0 [] (by omega) (by omega) (by simp)
  rw [List.drop_zero, show (((0 : Nat) : Nat) : Int) = 0 from rfl, List.map_nil] at hl
  simp only [cond_false, hl]
  cases hr : lexR (L s) 0 [] with
  | bad q => rfl
  | ok l =>
   have := lexR_len _ (L s) 0 [] l (Nat.le_refl _) hr
   simp only [List.length_nil] at this
   simp only [outR, Option.bind_some, Sum.elim_inr]
   rw [must_eq (by simp only [List.length_map, List.length_cons, List.length_nil, Bool.and_eq_true, decide_eq_true_eq]; exact ⟨rfl, by omega, rfl⟩)]
   rw [List.map_append]
   rfl
end
end Go.Proofs.Ytgpokdaacbjimab.W
namespace Go.Proofs.Ytgpokdaacbjimab.W
open Go Go.Eng
set_option linter.unusedVariables false
set_option linter.unusedSimpArgs false
set_option linter.unusedSectionVars false
def Comes {R : Type} (m : Option R) (Q : R -> Prop) : Prop := ∃ r, m = some r /\ Q r
theorem comes_some {R : Type} {r : R} {Q : R -> Prop} (h : Q r) : Comes (some r) Q := ⟨r, rfl, h⟩
theorem comes_bind {A R : Type} {m : Option A} {f : A -> Option R} {P : A -> Prop} {Q : R -> Prop} (h : Comes m P) (k : ∀ a, P a -> Comes (f a) Q) : Comes (Option.bind m f) Q := by
 obtain ⟨a, rfl, ha⟩ := h
 exact k a ha
theorem comes_cond {R : Type} {c : Bool} {a b : Option R} {Q : R -> Prop} (h1 : c = true -> Comes a Q) (h2 : c = false -> Comes b Q) : Comes (bif c then a else b) Q := by
 cases c
 ·exact h2 rfl
 ·exact h1 rfl
theorem comes_must {R : Type} {c φ : Bool} {r : Option R} {Q : R -> Prop} (h : φ = true) (k : Comes r Q) : Comes (must c φ r) Q := by rw [must_eq h]; exact k
theorem comes_mono {R : Type} {m : Option R} {P Q : R -> Prop} (h : Comes m P) (k : ∀ a, P a -> Q a) : Comes m Q := by
 obtain ⟨a, h1, h2⟩ := h
 exact ⟨a, h1, k a h2⟩
theorem idx1_in {v : List T} {i : Int} (h0 : 0 <= i) (h : i < (v.length : Nat)) (hv : ∀ x ∈ v, ∃ s, x = .sc (.string s)) : Comes (idx1 true .str v i) fun _ => True := by
 have hlt : i.toNat < v.length := by omega
 unfold idx1
 simp only [cond_true, decide_eq_true h0, List.getElem?_eq_getElem hlt]
 obtain ⟨s, hs⟩ := hv _ (List.getElem_mem hlt)
 rw [hs]
 exact ⟨_, rfl, trivial⟩
theorem keyword_c (n : Nat) (hn : 100 < n) (a : ByteArray) : Comes (m_sutureref1_Keyword n a) fun _ => True := by
 have loop : ∀ (m : Nat) (i : Int), 0 <= i -> i <= 17 -> 17 - i < m -> ∀ s1 s2 s3 s4 s5 s6 s7 s8 s9 s10 s11 s12 s13 s14 s15 s16 s17, Comes (l_sutureref1_Keyword_2 n m (a, s1, s2, s3, s4, s5, s6, s7, s8, s9, s10, s11, s12, s13, s14, s15, s16, s17, i)) fun _ => True := by
  intro m
  induction m with
  | zero => intro i h0 h1 h2; omega
  | succ m ih =>
   intro i h0 h1 h2 s1 s2 s3 s4 s5 s6 s7 s8 s9 s10 s11 s12 s13 s14 s15 s16 s17
   rw [l_sutureref1_Keyword_2]
   unfold l_sutureref1_Keyword_2_B
   simp only
   refine comes_cond (fun hc => ?_) (fun _ => comes_some trivial)
   have hc := of_decide_eq_true hc
   refine comes_bind (idx1_in h0 (by simp only [List.length_cons, List.length_nil]; omega) (by
    intro x hx
    simp only [List.mem_cons, List.not_mem_nil, or_false] at hx
    rcases hx with rfl | rfl | rfl | rfl | rfl | rfl | rfl | rfl | rfl | rfl | rfl | rfl | rfl | rfl | rfl | rfl | rfl <;> exact ⟨_, rfl⟩)) fun y _ => ?_
   refine comes_cond (fun _ => comes_some trivial) (fun _ => ?_)
   rw [wrap_id (by omega) (by omega)]
   exact ih (i + 1) (by omega) (by omega) (by omega) _ _ _ _ _ _ _ _ _ _ _ _ _ _ _ _ _
 unfold m_sutureref1_Keyword
 refine comes_bind (loop n 0 (by omega) (by omega) (by omega) _ _ _ _ _ _ _ _ _ _ _ _ _ _ _ _ _) fun x _ => ?_
 cases x with
 | inl p => exact comes_some trivial
 | inr p => exact comes_some trivial
theorem declKind_c (n : Nat) (hn : 100 < n) (a : ByteArray) : Comes (m_sutureref1_declKind n a) fun _ => True := by
 have loop : ∀ (m : Nat) (i : Int), 0 <= i -> i <= 6 -> 6 - i < m -> ∀ s1 s2 s3 s4 s5 s6, Comes (l_sutureref1_declKind_2 n m (a, s1, s2, s3, s4, s5, s6, i)) fun _ => True := by
  intro m
  induction m with
  | zero => intro i h0 h1 h2; omega
  | succ m ih =>
   intro i h0 h1 h2 s1 s2 s3 s4 s5 s6
   rw [l_sutureref1_declKind_2]
   unfold l_sutureref1_declKind_2_B
   simp only
   refine comes_cond (fun hc => ?_) (fun _ => comes_some trivial)
   have hc := of_decide_eq_true hc
   refine comes_bind (idx1_in h0 (by simp only [List.length_cons, List.length_nil]; omega) (by
    intro x hx
    simp only [List.mem_cons, List.not_mem_nil, or_false] at hx
    rcases hx with rfl | rfl | rfl | rfl | rfl | rfl <;> exact ⟨_, rfl⟩)) fun y _ => ?_
   refine comes_cond (fun _ => comes_some trivial) (fun _ => ?_)
   rw [wrap_id (show -9223372036854775808 <= i + 1 by omega) (by omega)]
   exact ih (i + 1) (by omega) (by omega) (by omega) _ _ _ _ _ _
 unfold m_sutureref1_declKind
 refine comes_bind (loop n 0 (by omega) (by omega) (by omega) _ _ _ _ _ _) fun x _ => ?_
 cases x with
 | inl p => exact comes_some trivial
 | inr p => exact comes_some trivial
def gdP (x : Nat × Nat) : Prop := cplxEq .f64 x.1 x.2 x.1 x.2 = true
theorem gd_F {a b : Int} (ha : a.natAbs < 2 ^ 53) (hb : b.natAbs < 2 ^ 53) : gdP (FloatKind.nearest .f64 a, FloatKind.nearest .f64 b) := by
 have e : ∀ c : Int, c.natAbs < 2 ^ 53 -> ((FloatKind.format .f64).order (Fl.F c) (Fl.F c) == some .eq) = true := by
  intro c hc
  rw [Fl.order_F c c hc hc]
  simp
 have h1 := e a ha
 have h2 := e b hb
 unfold gdP cplxEq
 simp only [Fl.F] at h1 h2
 simp only [h1, h2, Bool.and_self]
theorem place_c {n : Nat} {s : ByteArray} (hs : (L s).length <= 281474976710656) (hn : (L s).length < n) (q : Int) : Comes (m_sutureref1_Place n s q) fun r => gdP r := by
 have loop : ∀ (m : Nat) (k : Int) (i : Nat), k <= ((L s).length : Int) -> i <= (L s).length -> (L s).length - i < m -> ∀ s2 s3 : Int, 0 <= s2 -> s2 <= i + 1 -> 0 <= s3 -> s3 <= i + 1 -> Comes (l_sutureref1_Spot_5 n m (s, k, s2, s3, (i : Int))) fun r => 0 <= r.1 /\ r.1 <= 281474976710658 /\ 0 <= r.2 /\ r.2 <= 281474976710658 := by
  intro m
  induction m with
  | zero => intro k i h0 h1 h2; omega
  | succ m ih =>
   intro k i h0 h1 h2 s2 s3 a0 a1 b0 b1
   rw [l_sutureref1_Spot_5]
   unfold l_sutureref1_Spot_5_B
   simp only
   refine comes_cond (fun hc => ?_) (fun _ => comes_some ⟨a0, by simp only; omega, b0, by simp only; omega⟩)
   have hc := of_decide_eq_true hc
   rw [bidx_at (show i < (L s).length by omega)]
   simp only [Option.bind_some]
   rw [wrap_up (show i <= 281474976710656 by omega), wrap_id (show -9223372036854775808 <= s2 + 1 by omega) (by omega), wrap_id (show -9223372036854775808 <= s3 + 1 by omega) (by omega)]
   exact comes_cond (fun _ => ih k (i + 1) h0 (by omega) (by omega) _ _ (by omega) (by omega) (by omega) (by omega)) (fun _ => ih k (i + 1) h0 (by omega) (by omega) _ _ (by omega) (by omega) (by omega) (by omega))
 unfold m_sutureref1_Place m_sutureref1_Spot m_sutureref1_Within
 refine comes_bind (P := fun r => 0 <= r.1 /\ r.1 <= 281474976710658 /\ 0 <= r.2 /\ r.2 <= 281474976710658) ?_ fun x hx => comes_some (gd_F (by obtain ⟨h1, h2, _⟩ := hx; have : (2 : Nat) ^ 53 = 9007199254740992 := rfl; omega) (by obtain ⟨_, _, h1, h2⟩ := hx; have : (2 : Nat) ^ 53 = 9007199254740992 := rfl; omega))
 simp only [Option.bind_some]
 refine comes_bind (loop n _ 0 ?_ (by omega) (by omega) 1 1 (by omega) (by omega) (by omega) (by omega)) fun x hx => comes_some hx
 rw [size_L]
 split <;> split <;> omega
structure Toks (A : List T) (N : Int) : Prop where
 isN : (A.length : Int) = N + 1
 small : N <= 6000
 pos : 0 <= N
 at_ : ∀ (i : Nat), i < A.length -> ∃ t : Tok, A[i]? = some (encR t) /\ (t.kind ≠ 4 -> (i : Int) < N)
section
variable {A : List T} {N : Int} (hA : Toks A N)
include hA
theorem tok_c (c : Bool) {i : Int} (h0 : 0 <= i) (h1 : i <= N) : Comes (idx c [.int .i64, .str, .int .i64, .int .i64] A i) fun y => c = true -> ((y.cell 0).int ≠ 4 -> i < N) := by
 cases c with
 | false => exact ⟨_, rfl, fun h => by cases h⟩
 | true =>
  obtain ⟨t, ht, hk⟩ := hA.at_ i.toNat (by have := hA.isN; omega)
  refine ⟨encR t, ?_, fun _ h => ?_⟩
  ·simp only [idx, cond_true, decide_eq_true h0, ht]
   rfl
  ·have := hk h
   omega
end
structure Stp (A : List T) (N at_ : Int) (f : Bool) (q : List T × Int × Bool × Int) : Prop where
 same : q.1 = A
 le : at_ <= q.2.1
 top : q.2.1 <= N
 bad0 : 0 <= q.2.2.2
 bad1 : q.2.2.2 <= N
 fails : f = true -> q.2.2.1 = true
section
variable {A : List T} {N : Int} (hA : Toks A N) {n : Nat} (hn : 100 < n)
include hA
theorem failAt_c {i b q : Int} (f : Bool) (h0 : 0 <= i) (h1 : i <= N) (b0 : 0 <= b) (b1 : b <= N) (q0 : 0 <= q) (q1 : q <= N) : Comes (m___sutureref1_Reader__failAt n q A i f b) fun r => Stp A N i f r /\ r.2.2.1 = true /\ r.2.1 = i := by
 unfold m___sutureref1_Reader__failAt
 cases f with
 | true => exact ⟨_, rfl, ⟨rfl, Int.le_refl _, h1, b0, b1, fun _ => rfl⟩, rfl, rfl⟩
 | false => exact ⟨_, rfl, ⟨rfl, Int.le_refl _, h1, q0, q1, fun h => by cases h⟩, rfl, rfl⟩
theorem fail_c {i b : Int} (f : Bool) (h0 : 0 <= i) (h1 : i <= N) (b0 : 0 <= b) (b1 : b <= N) : Comes (m___sutureref1_Reader__fail n A i f b) fun r => Stp A N i f r /\ r.2.2.1 = true /\ r.2.1 = i := by
 unfold m___sutureref1_Reader__fail
 refine comes_bind (failAt_c hA f h0 h1 b0 b1 h0 h1) fun r hr => ?_
 obtain ⟨r1, r2, r3, r4⟩ := r
 exact comes_some hr
theorem word_c {i b : Int} (s : ByteArray) (f : Bool) (h0 : 0 <= i) (h1 : i <= N) : Comes (m___sutureref1_Reader__word n s A i f b) fun r => r.2 = (A, i, f, b) /\ (r.1 = true -> f = false /\ i < N) := by
 unfold m___sutureref1_Reader__word
 refine comes_bind (tok_c hA _ h0 h1) fun y hy => ?_
 refine comes_bind (tok_c hA _ h0 h1) fun y1 hy1 => ?_
 refine ⟨_, rfl, rfl, ?_⟩
 intro h
 simp only at h
 cases f with
 | true => simp at h
 | false =>
  refine ⟨rfl, ?_⟩
  simp only [Bool.not_false, cond_true] at h
  cases hk : (((y.cell 0).int : Int) == 1) with
  | false => rw [hk] at h; simp at h
  | true =>
   have hk := beq_iff_eq.1 hk
   exact hy rfl (by omega)
theorem sign_c {i b : Int} (s : ByteArray) (f : Bool) (h0 : 0 <= i) (h1 : i <= N) : Comes (m___sutureref1_Reader__sign n s A i f b) fun r => r.2 = (A, i, f, b) /\ (r.1 = true -> f = false /\ i < N) := by
 unfold m___sutureref1_Reader__sign
 refine comes_bind (tok_c hA _ h0 h1) fun y hy => ?_
 refine comes_bind (tok_c hA _ h0 h1) fun y1 hy1 => ?_
 refine ⟨_, rfl, rfl, ?_⟩
 intro h
 simp only at h
 cases f with
 | true => simp at h
 | false =>
  refine ⟨rfl, ?_⟩
  simp only [Bool.not_false, cond_true] at h
  cases hk : (((y.cell 0).int : Int) == 3) with
  | false => rw [hk] at h; simp at h
  | true =>
   have hk := beq_iff_eq.1 hk
   exact hy rfl (by omega)
def Stp1 (A : List T) (N at_ : Int) (f : Bool) (q : List T × Int × Bool × Int) : Prop := Stp A N at_ f q /\ (q.2.2.1 = false -> at_ < q.2.1)
theorem must_c {i b : Int} (s : ByteArray) (f : Bool) (h0 : 0 <= i) (h1 : i <= N) (b0 : 0 <= b) (b1 : b <= N) : Comes (m___sutureref1_Reader__must n s A i f b) fun r => Stp1 A N i f r := by
 unfold m___sutureref1_Reader__must
 refine comes_bind (sign_c hA s f h0 h1) fun r hr => ?_
 obtain ⟨q, r2⟩ := r
 obtain ⟨rfl, hq⟩ := hr
 simp only at hq ⊢
 refine comes_cond (fun hc => ?_) (fun hc => ?_)
 ·refine comes_bind (fail_c hA f h0 h1 b0 b1) fun r hr => ?_
  obtain ⟨r1, r2, r3, r4⟩ := r
  exact comes_some ⟨hr.1, fun h => by rw [hr.2.1] at h; cases h⟩
 ·have hs := hA.small
  obtain ⟨rfl, hlt⟩ := hq (by simpa using hc)
  rw [wrap_id (by omega) (by omega)]
  exact comes_some ⟨⟨rfl, by simp only; omega, by simp only; omega, b0, b1, fun h => by cases h⟩, fun _ => by simp only; omega⟩
include hn
theorem name_c {i b : Int} (f : Bool) (h0 : 0 <= i) (h1 : i <= N) (b0 : 0 <= b) (b1 : b <= N) : Comes (m___sutureref1_Reader__name n A i f b) fun r => Stp1 A N i f r.2 := by
 unfold m___sutureref1_Reader__name
 refine comes_bind (tok_c hA _ h0 h1) fun y hy => ?_
 refine comes_bind (tok_c hA _ h0 h1) fun y1 hy1 => ?_
 refine comes_bind (P := fun _ => True) (comes_cond (fun _ => keyword_c n hn _) (fun _ => comes_some trivial)) fun r2 _ => ?_
 refine comes_cond (fun hc => ?_) (fun hc => ?_)
 ·refine comes_bind (fail_c hA f h0 h1 b0 b1) fun r hr => ?_
  obtain ⟨r1, r2, r3, r4⟩ := r
  exact comes_some ⟨hr.1, fun h => by rw [hr.2.1] at h; cases h⟩
 ·have hs := hA.small
  cases f with
  | true => simp at hc
  | false =>
   simp only [cond_false] at hc
   cases hk : (((y.cell 0).int : Int) != 1) with
   | true => rw [hk] at hc; simp at hc
   | false =>
    have hk : (y.cell 0).int = 1 := by simpa using hk
    have hlt := hy rfl (by omega)
    rw [wrap_id (show -9223372036854775808 <= i + 1 by omega) (by omega), wrap_id (show -9223372036854775808 <= i + 1 - 1 by omega) (by omega)]
    refine comes_bind (tok_c hA _ (by omega) (by omega)) fun y4 _ => ?_
    exact comes_some ⟨⟨rfl, by simp only; omega, by simp only; omega, b0, b1, fun h => by cases h⟩, fun _ => by simp only; omega⟩
theorem number_c {i b : Int} (k : Int) (f : Bool) (h0 : 0 <= i) (h1 : i <= N) (b0 : 0 <= b) (b1 : b <= N) : Comes (m___sutureref1_Reader__number n k A i f b) fun r => Stp1 A N i f r.2 := by
 unfold m___sutureref1_Reader__number
 refine comes_bind (tok_c hA _ h0 h1) fun y hy => ?_
 refine comes_bind (tok_c hA _ h0 h1) fun y1 hy1 => ?_
 refine comes_cond (fun hc => ?_) (fun hc => ?_)
 ·refine comes_bind (fail_c hA f h0 h1 b0 b1) fun r hr => ?_
  obtain ⟨r1, r2, r3, r4⟩ := r
  exact comes_some ⟨hr.1, fun h => by rw [hr.2.1] at h; cases h⟩
 ·have hs := hA.small
  cases f with
  | true => simp at hc
  | false =>
   simp only [cond_false] at hc
   cases hk : (((y.cell 0).int : Int) != 2) with
   | true => rw [hk] at hc; simp at hc
   | false =>
    have hk : (y.cell 0).int = 2 := by simpa using hk
    have hlt := hy rfl (by omega)
    rw [wrap_id (show -9223372036854775808 <= i + 1 by omega) (by omega), wrap_id (show -9223372036854775808 <= i + 1 - 1 by omega) (by omega)]
    refine comes_bind (tok_c hA _ (by omega) (by omega)) fun y4 _ => ?_
    exact comes_some ⟨⟨rfl, by simp only; omega, by simp only; omega, b0, b1, fun h => by cases h⟩, fun _ => by simp only; omega⟩
end
end Go.Proofs.Ytgpokdaacbjimab.W
namespace Go.Proofs.Ytgpokdaacbjimab.W
open Go Go.Eng
set_option linter.unusedVariables false
set_option linter.unusedSimpArgs false
set_option linter.unusedSectionVars false
theorem Stp.trans {A : List T} {N i : Int} {f : Bool} {q r : List T × Int × Bool × Int} (h : Stp A N i f q) (k : Stp A N q.2.1 q.2.2.1 r) : Stp A N i f r :=
 ⟨k.same, Int.le_trans h.le k.le, k.top, k.bad0, k.bad1, fun hf => k.fails (h.fails hf)⟩
theorem Stp1.left {A : List T} {N i : Int} {f : Bool} {q r : List T × Int × Bool × Int} (h : Stp1 A N i f q) (k : Stp A N q.2.1 q.2.2.1 r) : Stp1 A N i f r := by
 refine ⟨h.1.trans k, fun hr => ?_⟩
 have hq : q.2.2.1 = false := by
  cases hq : q.2.2.1 with
  | false => rfl
  | true => rw [k.fails hq] at hr; cases hr
 have := h.2 hq
 have := k.le
 omega
theorem Stp1.right {A : List T} {N i : Int} {f : Bool} {q r : List T × Int × Bool × Int} (h : Stp A N i f q) (k : Stp1 A N q.2.1 q.2.2.1 r) : Stp1 A N i f r := by
 refine ⟨h.trans k.1, fun hr => ?_⟩
 have := k.2 hr
 have := h.le
 omega
theorem Stp1.up {A : List T} {N i b : Int} {r : List T × Int × Bool × Int} (hi : i < N) (k : Stp A N (i + 1) false r) : Stp1 A N i false r :=
 ⟨⟨k.same, by have := k.le; omega, k.top, k.bad0, k.bad1, fun h => by cases h⟩, fun _ => by have := k.le; omega⟩
theorem Stp.refl {A : List T} {N i b : Int} {f : Bool} (h1 : i <= N) (b0 : 0 <= b) (b1 : b <= N) : Stp A N i f (A, i, f, b) := ⟨rfl, Int.le_refl _, h1, b0, b1, id⟩
abbrev Rd (A : List T) (N : Int) (g : Int -> List T -> Int -> Bool -> Int -> Option (Int × Int × ByteArray × (List T) × (List T) × Int × Bool × Int)) (deep : Int) : Prop :=
 ∀ (i : Int) (f : Bool) (b : Int), 0 <= i -> i <= N -> 0 <= b -> b <= N -> Comes (g deep A i f b) fun r => Stp1 A N i f r.2.2.2.2
section
variable {A : List T} {N : Int} (hA : Toks A N) {n : Nat} (hn : 6002 < n)
include hA hn
theorem factor_c {c : B___sutureref1_Reader__expr} {deep : Int} (d0 : 0 <= deep) (d1 : deep <= 8) (hf : deep < 8 -> Rd A N c.__sutureref1_Reader__factor (deep + 1)) (he : deep < 8 -> Rd A N c.__sutureref1_Reader__expr (deep + 1)) : Rd A N (f___sutureref1_Reader__factor c n) deep := by
 intro i f b h0 h1 b0 b1
 have hs := hA.small
 unfold f___sutureref1_Reader__factor
 cases f with
 | true =>
  simp only [cond_true]
  exact comes_some ⟨Stp.refl h1 b0 b1, fun h => by cases h⟩
 | false =>
  simp only [cond_false]
  refine comes_bind (tok_c hA _ h0 h1) fun y hy => ?_
  have hy := hy rfl
  refine comes_cond (fun hk => ?_) (fun _ => ?_)
  ·have hk := beq_iff_eq.1 hk
   have hlt := hy (by omega)
   rw [wrap_id (by omega) (by omega)]
   exact comes_some (Stp1.up (b := b) hlt (Stp.refl (by omega) b0 b1))
  ·refine comes_bind (P := fun _ => True) (comes_cond (fun _ => keyword_c n (by omega) _) (fun _ => comes_some trivial)) fun r1 _ => ?_
   refine comes_cond (fun hk => ?_) (fun _ => ?_)
   ·cases hk1 : (((y.cell 0).int : Int) == 1) with
    | false => rw [hk1] at hk; simp at hk
    | true =>
     have hk := beq_iff_eq.1 hk1
     have hlt := hy (by omega)
     rw [wrap_id (by omega) (by omega)]
     exact comes_some (Stp1.up (b := b) hlt (Stp.refl (by omega) b0 b1))
   ·refine comes_bind (sign_c hA (b := b) _ false h0 h1) fun r2 hr2 => ?_
    obtain ⟨q2, w2⟩ := r2
    obtain ⟨rfl, hq2⟩ := hr2
    simp only at hq2 ⊢
    refine comes_cond (fun hk => ?_) (fun _ => ?_)
    ·cases q2 with
     | false => simp at hk
     | true =>
      have hd := of_decide_eq_true (by simpa using hk)
      obtain ⟨_, hlt⟩ := hq2 rfl
      rw [wrap_id (show -9223372036854775808 <= deep + 1 by omega) (by omega), wrap_id (show -9223372036854775808 <= i + 1 by omega) (by omega)]
      refine comes_bind (hf hd (i + 1) false b (by omega) (by omega) b0 b1) fun r hr => ?_
      obtain ⟨r1, r2, r3, r4, r5⟩ := r
      exact comes_some (Stp1.up (b := b) hlt hr.1)
    ·refine comes_bind (sign_c hA (b := b) _ false h0 h1) fun r4 hr4 => ?_
     obtain ⟨q4, w4⟩ := r4
     obtain ⟨rfl, hq4⟩ := hr4
     simp only at hq4 ⊢
     refine comes_cond (fun hk => ?_) (fun _ => ?_)
     ·cases q4 with
      | false => simp at hk
      | true =>
       have hd := of_decide_eq_true (by simpa using hk)
       obtain ⟨_, hlt⟩ := hq4 rfl
       rw [wrap_id (show -9223372036854775808 <= deep + 1 by omega) (by omega), wrap_id (show -9223372036854775808 <= i + 1 by omega) (by omega)]
       refine comes_bind (he hd (i + 1) false b (by omega) (by omega) b0 b1) fun r hr => ?_
       obtain ⟨r1, r2, r3, r4, rA, ri, rf, rb⟩ := r
       obtain ⟨⟨e1, e2, e3, e4, e5, e6⟩, e7⟩ := hr
       simp only at e1 e2 e3 e4 e5 e6 e7 ⊢
       subst e1
       refine comes_bind (must_c hA _ rf (by omega) e3 e4 e5) fun r6 hr6 => ?_
       obtain ⟨u1, u2, u3, u4⟩ := r6
       refine comes_some (Stp1.up (b := b) hlt ?_)
       exact Stp.trans (q := (rA, ri, rf, rb)) ⟨rfl, e2, e3, e4, e5, e6⟩ hr6.1
     ·refine comes_bind (fail_c hA false h0 h1 b0 b1) fun r hr => ?_
      obtain ⟨u1, u2, u3, u4⟩ := r
      exact comes_some ⟨hr.1, fun h => by rw [hr.2.1] at h; cases h⟩
theorem term_c {c : B___sutureref1_Reader__expr} {deep : Int} (hf : Rd A N c.__sutureref1_Reader__factor deep) : Rd A N (f___sutureref1_Reader__term c n) deep := by
 have hs := hA.small
 have loop : ∀ (m : Nat) (i : Int) (f : Bool) (b : Int), 0 <= i -> i <= N -> 0 <= b -> b <= N -> N - i + 1 < m -> ∀ s5 s6 s7 s8 s9 s10 s11 s12, Comes (l___sutureref1_Reader__term_2 c n m (deep, A, i, f, b, s5, s6, s7, s8, s9, s10, s11, s12)) fun r => Stp A N i f (r.1, r.2.1, r.2.2.1, r.2.2.2.1) := by
  intro m
  induction m with
  | zero => intro i f b h0 h1 b0 b1 hm; omega
  | succ m ih =>
   intro i f b h0 h1 b0 b1 hm s5 s6 s7 s8 s9 s10 s11 s12
   rw [l___sutureref1_Reader__term_2]
   unfold l___sutureref1_Reader__term_2_B
   simp only
   refine comes_cond (fun hc => ?_) (fun _ => comes_some (Stp.refl h1 b0 b1))
   have hff : f = false := by simpa using hc
   subst hff
   have next : ∀ (k : Int), i < N -> Comes (Option.bind (c.__sutureref1_Reader__factor deep A (IntKind.wrap .i64 (i + 1)) false b) fun r2 => Option.bind (m_sutureref1_binary n k s9 s10 s11 s12 r2.1 r2.2.1 r2.2.2.1 r2.2.2.2.1) fun r3 => l___sutureref1_Reader__term_2 c n m (deep, r2.2.2.2.2.1, r2.2.2.2.2.2.1, r2.2.2.2.2.2.2.1, r2.2.2.2.2.2.2.2, s5, s6, s7, s8, r3.1, r3.2.1, r3.2.2.1, r3.2.2.2)) fun r => Stp A N i false (r.1, r.2.1, r.2.2.1, r.2.2.2.1) := by
    intro k hlt
    rw [wrap_id (show -9223372036854775808 <= i + 1 by omega) (by omega)]
    refine comes_bind (hf (i + 1) false b (by omega) (by omega) b0 b1) fun r hr => ?_
    obtain ⟨r1, r2, r3, r4, rA, ri, rf, rb⟩ := r
    obtain ⟨⟨e1, e2, e3, e4, e5, e6⟩, e7⟩ := hr
    simp only at e1 e2 e3 e4 e5 e6 e7 ⊢
    subst e1
    unfold m_sutureref1_binary
    simp only [Option.bind_some]
    refine comes_mono (ih ri rf rb (by omega) e3 e4 e5 (by omega) _ _ _ _ _ _ _ _) fun a ha => ?_
    exact ⟨ha.same, by have := ha.le; omega, ha.top, ha.bad0, ha.bad1, fun h => by cases h⟩
   refine comes_bind (sign_c hA (b := b) _ false h0 h1) fun r hr => ?_
   obtain ⟨q1, w1⟩ := r
   obtain ⟨rfl, hq1⟩ := hr
   simp only at hq1 ⊢
   refine comes_cond (fun hk => ?_) (fun _ => ?_)
   ·exact next 6 (hq1 hk).2
   ·refine comes_bind (sign_c hA (b := b) _ false h0 h1) fun r hr => ?_
    obtain ⟨q1, w1⟩ := r
    obtain ⟨rfl, hq1⟩ := hr
    simp only at hq1 ⊢
    refine comes_cond (fun hk => ?_) (fun _ => ?_)
    ·exact next 7 (hq1 hk).2
    ·refine comes_bind (sign_c hA (b := b) _ false h0 h1) fun r hr => ?_
     obtain ⟨q1, w1⟩ := r
     obtain ⟨rfl, hq1⟩ := hr
     simp only at hq1 ⊢
     refine comes_cond (fun hk => ?_) (fun _ => ?_)
     ·exact next 8 (hq1 hk).2
     ·exact comes_some (Stp.refl h1 b0 b1)
 intro i f b h0 h1 b0 b1
 unfold f___sutureref1_Reader__term
 refine comes_bind (hf i f b h0 h1 b0 b1) fun r hr => ?_
 obtain ⟨r1, r2, r3, r4, rA, ri, rf, rb⟩ := r
 have hr' := hr
 obtain ⟨⟨e1, e2, e3, e4, e5, e6⟩, e7⟩ := hr
 simp only at e1 e2 e3 e4 e5 e6 e7 ⊢
 subst e1
 refine comes_bind (loop n ri rf rb (by omega) e3 e4 e5 (by omega) _ _ _ _ _ _ _ _) fun p hp => ?_
 exact comes_some (Stp1.left hr' hp)
theorem sum_c {c : B___sutureref1_Reader__expr} {deep : Int} (hf : Rd A N c.__sutureref1_Reader__term deep) : Rd A N (f___sutureref1_Reader__sum c n) deep := by
 have hs := hA.small
 have loop : ∀ (m : Nat) (i : Int) (f : Bool) (b : Int), 0 <= i -> i <= N -> 0 <= b -> b <= N -> N - i + 1 < m -> ∀ s5 s6 s7 s8 s9 s10 s11 s12, Comes (l___sutureref1_Reader__sum_2 c n m (deep, A, i, f, b, s5, s6, s7, s8, s9, s10, s11, s12)) fun r => Stp A N i f (r.1, r.2.1, r.2.2.1, r.2.2.2.1) := by
  intro m
  induction m with
  | zero => intro i f b h0 h1 b0 b1 hm; omega
  | succ m ih =>
   intro i f b h0 h1 b0 b1 hm s5 s6 s7 s8 s9 s10 s11 s12
   rw [l___sutureref1_Reader__sum_2]
   unfold l___sutureref1_Reader__sum_2_B
   simp only
   refine comes_cond (fun hc => ?_) (fun _ => comes_some (Stp.refl h1 b0 b1))
   have hff : f = false := by simpa using hc
   subst hff
   have next : ∀ (k : Int), i < N -> Comes (Option.bind (c.__sutureref1_Reader__term deep A (IntKind.wrap .i64 (i + 1)) false b) fun r2 => Option.bind (m_sutureref1_binary n k s9 s10 s11 s12 r2.1 r2.2.1 r2.2.2.1 r2.2.2.2.1) fun r3 => l___sutureref1_Reader__sum_2 c n m (deep, r2.2.2.2.2.1, r2.2.2.2.2.2.1, r2.2.2.2.2.2.2.1, r2.2.2.2.2.2.2.2, s5, s6, s7, s8, r3.1, r3.2.1, r3.2.2.1, r3.2.2.2)) fun r => Stp A N i false (r.1, r.2.1, r.2.2.1, r.2.2.2.1) := by
    intro k hlt
    rw [wrap_id (show -9223372036854775808 <= i + 1 by omega) (by omega)]
    refine comes_bind (hf (i + 1) false b (by omega) (by omega) b0 b1) fun r hr => ?_
    obtain ⟨r1, r2, r3, r4, rA, ri, rf, rb⟩ := r
    obtain ⟨⟨e1, e2, e3, e4, e5, e6⟩, e7⟩ := hr
    simp only at e1 e2 e3 e4 e5 e6 e7 ⊢
    subst e1
    unfold m_sutureref1_binary
    simp only [Option.bind_some]
    refine comes_mono (ih ri rf rb (by omega) e3 e4 e5 (by omega) _ _ _ _ _ _ _ _) fun a ha => ?_
    exact ⟨ha.same, by have := ha.le; omega, ha.top, ha.bad0, ha.bad1, fun h => by cases h⟩
   refine comes_bind (sign_c hA (b := b) _ false h0 h1) fun r hr => ?_
   obtain ⟨q1, w1⟩ := r
   obtain ⟨rfl, hq1⟩ := hr
   simp only at hq1 ⊢
   refine comes_cond (fun hk => ?_) (fun _ => ?_)
   ·exact next 4 (hq1 hk).2
   ·refine comes_bind (sign_c hA (b := b) _ false h0 h1) fun r hr => ?_
    obtain ⟨q1, w1⟩ := r
    obtain ⟨rfl, hq1⟩ := hr
    simp only at hq1 ⊢
    refine comes_cond (fun hk => ?_) (fun _ => ?_)
    ·exact next 5 (hq1 hk).2
    ·exact comes_some (Stp.refl h1 b0 b1)
 intro i f b h0 h1 b0 b1
 unfold f___sutureref1_Reader__sum
 refine comes_bind (hf i f b h0 h1 b0 b1) fun r hr => ?_
 obtain ⟨r1, r2, r3, r4, rA, ri, rf, rb⟩ := r
 have hr' := hr
 obtain ⟨⟨e1, e2, e3, e4, e5, e6⟩, e7⟩ := hr
 simp only at e1 e2 e3 e4 e5 e6 e7 ⊢
 subst e1
 refine comes_bind (loop n ri rf rb (by omega) e3 e4 e5 (by omega) _ _ _ _ _ _ _ _) fun p hp => ?_
 exact comes_some (Stp1.left hr' hp)
theorem expr_c {c : B___sutureref1_Reader__expr} {deep : Int} (hf : Rd A N c.__sutureref1_Reader__sum deep) : Rd A N (f___sutureref1_Reader__expr c n) deep := by
 have hs := hA.small
 intro i f b h0 h1 b0 b1
 unfold f___sutureref1_Reader__expr
 refine comes_bind (hf i f b h0 h1 b0 b1) fun r hr => ?_
 obtain ⟨r1, r2, r3, r4, rA, ri, rf, rb⟩ := r
 have hr' := hr
 obtain ⟨⟨e1, e2, e3, e4, e5, e6⟩, e7⟩ := hr
 simp only at e1 e2 e3 e4 e5 e6 e7 ⊢
 subst e1
 have next : ∀ (k : Int), rf = false -> ri < N -> Comes (Option.bind (c.__sutureref1_Reader__sum deep rA (IntKind.wrap .i64 (ri + 1)) rf rb) fun r2' => Option.bind (m_sutureref1_binary n k r1 r2 r3 r4 r2'.1 r2'.2.1 r2'.2.2.1 r2'.2.2.2.1) fun r3' => some (r3'.1, r3'.2.1, r3'.2.2.1, r3'.2.2.2, r2'.2.2.2.2.1, r2'.2.2.2.2.2.1, r2'.2.2.2.2.2.2.1, r2'.2.2.2.2.2.2.2)) fun r => Stp1 rA N i f r.2.2.2.2 := by
  intro k hrf hlt
  subst hrf
  rw [wrap_id (show -9223372036854775808 <= ri + 1 by omega) (by omega)]
  refine comes_bind (hf (ri + 1) false rb (by omega) (by omega) e4 e5) fun r hr => ?_
  obtain ⟨u1, u2, u3, u4, u5⟩ := r
  unfold m_sutureref1_binary
  simp only [Option.bind_some]
  exact comes_some (Stp1.left hr' (Stp1.up (b := rb) hlt hr.1).1)
 refine comes_bind (sign_c hA (b := rb) _ rf (by omega) e3) fun r hr => ?_
 obtain ⟨q1, w1⟩ := r
 obtain ⟨rfl, hq1⟩ := hr
 simp only at hq1 ⊢
 refine comes_cond (fun hk => ?_) (fun _ => ?_)
 ·exact next 9 (hq1 hk).1 (hq1 hk).2
 ·refine comes_bind (sign_c hA (b := rb) _ rf (by omega) e3) fun r hr => ?_
  obtain ⟨q1, w1⟩ := r
  obtain ⟨rfl, hq1⟩ := hr
  simp only at hq1 ⊢
  refine comes_cond (fun hk => ?_) (fun _ => ?_)
  ·exact next 10 (hq1 hk).1 (hq1 hk).2
  ·exact comes_some hr'
theorem exprs_c : ∀ (m : Nat) (deep : Int), 0 <= deep -> deep <= 8 →
  (4 * (8 - deep) + 1 <= m -> Rd A N (unB___sutureref1_Reader__expr n m).__sutureref1_Reader__factor deep) ∧
  (4 * (8 - deep) + 2 <= m -> Rd A N (unB___sutureref1_Reader__expr n m).__sutureref1_Reader__term deep) ∧
  (4 * (8 - deep) + 3 <= m -> Rd A N (unB___sutureref1_Reader__expr n m).__sutureref1_Reader__sum deep) ∧
  (4 * (8 - deep) + 4 <= m -> Rd A N (unB___sutureref1_Reader__expr n m).__sutureref1_Reader__expr deep) := by
 intro m
 induction m with
 | zero => intro deep d0 d1; exact ⟨fun h => by omega, fun h => by omega, fun h => by omega, fun h => by omega⟩
 | succ m ih =>
  intro deep d0 d1
  refine ⟨fun h => ?_, fun h => ?_, fun h => ?_, fun h => ?_⟩
  ·exact factor_c hA hn d0 d1 (fun hd => (ih (deep + 1) (by omega) (by omega)).1 (by omega)) (fun hd => (ih (deep + 1) (by omega) (by omega)).2.2.2 (by omega))
  ·exact term_c hA hn ((ih deep d0 d1).1 (by omega))
  ·exact sum_c hA hn ((ih deep d0 d1).2.1 (by omega))
  ·exact expr_c hA hn ((ih deep d0 d1).2.2.1 (by omega))
theorem whole_c {i b : Int} (s : ByteArray) (f : Bool) (h0 : 0 <= i) (h1 : i <= N) (b0 : 0 <= b) (b1 : b <= N) : Comes (m___sutureref1_Reader__whole n s A i f b) fun r => Stp A N i f r.2.2.2.2 := by
 unfold m___sutureref1_Reader__whole
 cases f with
 | true => exact comes_some (Stp.refl h1 b0 b1)
 | false =>
  simp only [Bool.not_false, cond_true]
  refine comes_bind ((exprs_c hA hn n 0 (by omega) (by omega)).2.2.2 (by omega) i false b h0 h1 b0 b1) fun r hr => ?_
  obtain ⟨u1, u2, u3, u4, u5⟩ := r
  exact comes_some hr.1
end
end Go.Proofs.Ytgpokdaacbjimab.W
namespace Go.Proofs.Ytgpokdaacbjimab.W
open Go Go.Eng
set_option linter.unusedVariables false
set_option linter.unusedSimpArgs false
set_option linter.unusedSectionVars false
inductive S where
 | mk (kind : Int) (name other : ByteArray) (num ek en : Int) (es : ByteArray) (eof : List T) (body els : List S) (re im : Nat)
mutual
def S.enc : S -> T
 | .mk kind name other num ek en es eof body els re im => T.agg [(T.sc (.int .i64 kind)), (T.sc (.string name)), (T.sc (.string other)), (T.sc (.int .i64 num)), (T.sc (.int .i64 ek)), (T.sc (.int .i64 en)), (T.sc (.string es)), (T.list eof), (T.list (encSLJ body)), (T.list (encSLJ els)), (T.sc (.complex .f64 re im))]
def encSLJ : List S -> List T
 | [] => []
 | s :: r => s.enc :: encSLJ r
end
mutual
def S.cnt : S -> Nat
 | .mk _ _ _ _ _ _ _ _ body els _ _ => 1 + cntL body + cntL els
def cntL : List S -> Nat
 | [] => 0
 | s :: r => s.cnt + cntL r
end
theorem encSL_appendJ : ∀ (l k : List S), encSLJ (l ++ k) = encSLJ l ++ encSLJ k
 | [], k => by simp only [encSLJ, List.nil_append]
 | s :: l, k => by simp only [encSLJ, List.cons_append, encSL_appendJ l k]
theorem cntL_append : ∀ (l k : List S), cntL (l ++ k) = cntL l + cntL k
 | [], k => by simp only [cntL, List.nil_append]; omega
 | s :: l, k => by simp only [cntL, List.cons_append, cntL_append l k]; omega
theorem cnt_pos : ∀ (s : S), 1 <= s.cnt
 | .mk _ _ _ _ _ _ _ _ body els _ _ => by simp only [S.cnt]; omega
theorem len_cnt : ∀ (l : List S), (encSLJ l).length <= cntL l
 | [] => by simp [encSLJ, cntL]
 | s :: l => by
  have := len_cnt l
  have := cnt_pos s
  simp only [encSLJ, cntL, List.length_cons]; omega
theorem encSL_oneJ (s : S) : encSLJ [s] = [s.enc] := by simp only [encSLJ]
theorem sized_SJ : ∀ (l : List S), sized 11 (encSLJ l) = true
 | [] => by simp [encSLJ, sized]
 | .mk _ _ _ _ _ _ _ _ _ _ _ _ :: l => by
  have := sized_SJ l
  simp only [sized, encSLJ, List.all_cons, Bool.and_eq_true] at *
  exact ⟨rfl, this⟩
mutual
def gdS : S -> Prop
 | .mk _ _ _ _ _ _ _ _ body els re im => gdP (re, im) /\ gdL body /\ gdL els
def gdL : List S -> Prop
 | [] => True
 | s :: r => gdS s /\ gdL r
end
theorem gdL_append : ∀ (l k : List S), gdL l -> gdL k -> gdL (l ++ k)
 | [], k, _, h => by simpa using h
 | s :: l, k, h, g => by simp only [gdL] at h; simp only [List.cons_append, gdL]; exact ⟨h.1, gdL_append l k h.2 g⟩
theorem gdL_nil : gdL [] := by simp only [gdL]
def StQ (A : List T) (N i : Int) (r : Int × ByteArray × ByteArray × Int × Int × Int × ByteArray × (List T) × (List T) × (List T) × (Nat × Nat) × (List T) × Int × Bool × Int) : Prop :=
 (∃ bl el : List S, r.2.2.2.2.2.2.2.2.1 = encSLJ bl /\ r.2.2.2.2.2.2.2.2.2.1 = encSLJ el /\ ((cntL bl + cntL el : Nat) : Int) <= r.2.2.2.2.2.2.2.2.2.2.2.2.1 - i ∧
  (r.2.2.2.2.2.2.2.2.2.2.2.2.2.1 = false -> ((cntL bl + cntL el : Nat) : Int) + 1 <= r.2.2.2.2.2.2.2.2.2.2.2.2.1 - i) /\ gdP r.2.2.2.2.2.2.2.2.2.2.1 /\ gdL bl /\ gdL el) /\ Stp A N i false r.2.2.2.2.2.2.2.2.2.2.2
def BlQ (A : List T) (N i : Int) (f : Bool) (r : (List T) × (List T) × Int × Bool × Int) : Prop :=
 (∃ l : List S, r.1 = encSLJ l /\ ((cntL l : Nat) : Int) <= r.2.2.1 - i /\ gdL l) /\ Stp A N i f r.2
section
variable {A : List T} {N : Int} (hA : Toks A N) {n : Nat} (hn : 6002 < n) {s : ByteArray} (hs0 : (L s).length <= 281474976710656) (hsn : (L s).length < n)
include hA hn hs0 hsn
theorem stmt_c {c : B___sutureref1_Reader__block} {deep : Int} (d0 : 0 <= deep) (d1 : deep <= 8)
  (hb : ∀ (i : Int) (f : Bool) (b : Int), 0 <= i -> i <= N -> 0 <= b -> b <= N -> Comes (c.__sutureref1_Reader__block s (deep + 1) A i f b) (BlQ A N i f)) :
  ∀ (i b : Int), 0 <= i -> i <= N -> 0 <= b -> b <= N -> Comes (f___sutureref1_Reader__stmt c n s deep A i false b) (StQ A N i) := by
 intro i b h0 h1 b0 b1
 have hs := hA.small
 have fin : ∀ (k num ek en : Int) (nm ot es : ByteArray) (eof : List T) (at_ : Nat × Nat) (q : List T × Int × Bool × Int), gdP at_ -> Stp A N (i + 1) false q -> StQ A N i (k, nm, ot, num, ek, en, es, eof, [], [], at_, q) := by
  intro k num ek en nm ot es eof at_ q hat hq
  have := hq.le
  refine ⟨⟨[], [], by simp only [encSLJ], by simp only [encSLJ], ?_, fun _ => ?_, hat, gdL_nil, gdL_nil⟩, ⟨hq.same, by simp only; omega, hq.top, hq.bad0, hq.bad1, fun h => by cases h⟩⟩
  ·simp only [cntL]; omega
  ·simp only [cntL]; omega
 unfold f___sutureref1_Reader__stmt
 refine comes_bind (tok_c hA _ h0 h1) fun y hy => ?_
 have hy := hy rfl
 refine comes_bind (place_c hs0 hsn _) fun r1 hat => ?_
 refine comes_cond (fun _ => ?_) (fun hk => ?_)
 ·refine comes_bind (fail_c hA false h0 h1 b0 b1) fun r hr => ?_
  obtain ⟨u1, u2, u3, u4⟩ := r
  obtain ⟨hr1, hr2, hr3⟩ := hr
  simp only at hr1 hr2 hr3 ⊢
  subst hr3
  refine comes_some ⟨⟨[], [], by simp only [encSLJ], by simp only [encSLJ], ?_, fun h => ?_, hat, gdL_nil, gdL_nil⟩, hr1⟩
  ·simp only [cntL]; omega
  ·simp only at h; rw [hr2] at h; cases h
 ·have hk : (y.cell 0).int = 1 := by simpa using hk
  have hlt := hy (by omega)
  rw [wrap_id (show -9223372036854775808 <= i + 1 by omega) (by omega), wrap_id (show -9223372036854775808 <= i + 1 - 1 by omega) (by omega), wrap_id (show -9223372036854775808 <= deep + 1 by omega) (by omega)]
  have hi1 : 0 <= i + 1 := by omega
  have hi2 : i + 1 <= N := by omega
  have la : ∀ k : Int, Comes (Option.bind (m___sutureref1_Reader__name n A (i + 1) false b) fun r => some (k, r.1, (⟨#[]⟩ : ByteArray), (0 : Int), (0 : Int), (0 : Int), (⟨#[]⟩ : ByteArray), ([] : List T), ([] : List T), ([] : List T), r1, r.2.1, r.2.2.1, r.2.2.2.1, r.2.2.2.2)) (StQ A N i) := by
   intro k
   refine comes_bind (name_c hA (by omega) false hi1 hi2 b0 b1) fun r hr => ?_
   obtain ⟨u0, u1, u2, u3, u4⟩ := r
   exact comes_some (fin _ _ _ _ _ _ _ _ _ _ hat hr.1)
  have lb : Comes (Option.bind (m___sutureref1_Reader__name n A (i + 1) false b) fun r7 => Option.bind (m___sutureref1_Reader__whole n s r7.2.1 r7.2.2.1 r7.2.2.2.1 r7.2.2.2.2) fun r8 => some ((4 : Int), r7.1, (⟨#[]⟩ : ByteArray), (0 : Int), r8.1, r8.2.1, r8.2.2.1, r8.2.2.2.1, ([] : List T), ([] : List T), r1, r8.2.2.2.2.1, r8.2.2.2.2.2.1, r8.2.2.2.2.2.2.1, r8.2.2.2.2.2.2.2)) (StQ A N i) := by
   refine comes_bind (name_c hA (by omega) false hi1 hi2 b0 b1) fun r hr => ?_
   obtain ⟨u0, u1, u2, u3, u4⟩ := r
   obtain ⟨hr, hr2⟩ := hr
   obtain ⟨e1, e2, e3, e4, e5, e6⟩ := hr
   simp only at e1 e2 e3 e4 e5 e6 ⊢
   subst e1
   refine comes_bind (whole_c hA hn s u3 (by omega) e3 e4 e5) fun r hr3 => ?_
   obtain ⟨v0, v1, v2, v3, v4⟩ := r
   exact comes_some (fin _ _ _ _ _ _ _ _ _ _ hat (Stp.trans (q := (u1, u2, u3, u4)) ⟨rfl, e2, e3, e4, e5, e6⟩ hr3))
  have lc : Comes (Option.bind (m___sutureref1_Reader__name n A (i + 1) false b) fun r9 => Option.bind (m___sutureref1_Reader__name n r9.2.1 r9.2.2.1 r9.2.2.2.1 r9.2.2.2.2) fun r10 => some ((5 : Int), r9.1, r10.1, (0 : Int), (0 : Int), (0 : Int), (⟨#[]⟩ : ByteArray), ([] : List T), ([] : List T), ([] : List T), r1, r10.2.1, r10.2.2.1, r10.2.2.2.1, r10.2.2.2.2)) (StQ A N i) := by
   refine comes_bind (name_c hA (by omega) false hi1 hi2 b0 b1) fun r hr => ?_
   obtain ⟨u0, u1, u2, u3, u4⟩ := r
   obtain ⟨hr, hr2⟩ := hr
   obtain ⟨e1, e2, e3, e4, e5, e6⟩ := hr
   simp only at e1 e2 e3 e4 e5 e6 ⊢
   subst e1
   refine comes_bind (name_c hA (by omega) u3 (by omega) e3 e4 e5) fun r hr3 => ?_
   obtain ⟨v0, v1, v2, v3, v4⟩ := r
   exact comes_some (fin _ _ _ _ _ _ _ _ _ _ hat (Stp.trans (q := (u1, u2, u3, u4)) ⟨rfl, e2, e3, e4, e5, e6⟩ hr3.1))
  have ld : Comes (Option.bind (m___sutureref1_Reader__whole n s A (i + 1) false b) fun r11 => some ((6 : Int), (⟨#[]⟩ : ByteArray), (⟨#[]⟩ : ByteArray), (0 : Int), r11.1, r11.2.1, r11.2.2.1, r11.2.2.2.1, ([] : List T), ([] : List T), r1, r11.2.2.2.2.1, r11.2.2.2.2.2.1, r11.2.2.2.2.2.2.1, r11.2.2.2.2.2.2.2)) (StQ A N i) := by
   refine comes_bind (whole_c hA hn s false hi1 hi2 b0 b1) fun r hr => ?_
   obtain ⟨v0, v1, v2, v3, v4⟩ := r
   exact comes_some (fin _ _ _ _ _ _ _ _ _ _ hat hr)
  have le : Comes (Option.bind (m___sutureref1_Reader__whole n s A (i + 1) false b) fun r12 => Option.bind (c.__sutureref1_Reader__block s (deep + 1) r12.2.2.2.2.1 r12.2.2.2.2.2.1 r12.2.2.2.2.2.2.1 r12.2.2.2.2.2.2.2) fun r13 => Option.bind (m___sutureref1_Reader__word n (⟨#[101, 108, 115, 101]⟩ : ByteArray) r13.2.1 r13.2.2.1 r13.2.2.2.1 r13.2.2.2.2) fun r14 => bif r14.1 then (Option.bind (c.__sutureref1_Reader__block s (deep + 1) r14.2.1 (IntKind.wrap .i64 (r14.2.2.1 + 1)) r14.2.2.2.1 r14.2.2.2.2) fun r15 => some ((7 : Int), (⟨#[]⟩ : ByteArray), (⟨#[]⟩ : ByteArray), (0 : Int), r12.1, r12.2.1, r12.2.2.1, r12.2.2.2.1, r13.1, r15.1, r1, r15.2.1, r15.2.2.1, r15.2.2.2.1, r15.2.2.2.2)) else (some ((7 : Int), (⟨#[]⟩ : ByteArray), (⟨#[]⟩ : ByteArray), (0 : Int), r12.1, r12.2.1, r12.2.2.1, r12.2.2.2.1, r13.1, ([] : List T), r1, r14.2.1, r14.2.2.1, r14.2.2.2.1, r14.2.2.2.2))) (StQ A N i) := by
   refine comes_bind (whole_c hA hn s false hi1 hi2 b0 b1) fun r hr => ?_
   obtain ⟨v0, v1, v2, v3, u1, u2, u3, u4⟩ := r
   obtain ⟨e1, e2, e3, e4, e5, e6⟩ := hr
   simp only at e1 e2 e3 e4 e5 e6 ⊢
   subst e1
   refine comes_bind (hb u2 u3 u4 (by omega) e3 e4 e5) fun r hr => ?_
   obtain ⟨w0, w1, w2, w3, w4⟩ := r
   obtain ⟨⟨bl, hbl, hbc, hbg⟩, g1, g2, g3, g4, g5, g6⟩ := hr
   simp only at hbl hbc g1 g2 g3 g4 g5 g6 ⊢
   subst g1
   subst hbl
   refine comes_bind (word_c hA (b := w4) _ w3 (by omega) g3) fun r hr => ?_
   obtain ⟨q1, w5⟩ := r
   obtain ⟨rfl, hq1⟩ := hr
   simp only at hq1 ⊢
   refine comes_cond (fun hk => ?_) (fun _ => ?_)
   ·obtain ⟨rfl, hlt2⟩ := hq1 hk
    rw [wrap_id (show -9223372036854775808 <= w2 + 1 by omega) (by omega)]
    refine comes_bind (hb (w2 + 1) false w4 (by omega) (by omega) g4 g5) fun r hr => ?_
    obtain ⟨x0, x1, x2, x3, x4⟩ := r
    obtain ⟨⟨el, hel, hec, heg⟩, k1, k2, k3, k4, k5, k6⟩ := hr
    simp only at hel hec k1 k2 k3 k4 k5 k6 ⊢
    subst k1
    subst hel
    refine comes_some ⟨⟨bl, el, rfl, rfl, ?_, fun _ => ?_, hat, hbg, heg⟩, ⟨rfl, ?_, k3, k4, k5, fun h => by cases h⟩⟩ <;> simp only <;> omega
   ·refine comes_some ⟨⟨bl, [], rfl, by simp only [encSLJ], ?_, fun _ => ?_, hat, hbg, gdL_nil⟩, ⟨rfl, ?_, g3, g4, g5, fun h => by cases h⟩⟩ <;> simp only [cntL] <;> omega
  have lf : Comes (Option.bind (m___sutureref1_Reader__number n 9 A (i + 1) false b) fun r16 => Option.bind (c.__sutureref1_Reader__block s (deep + 1) r16.2.1 r16.2.2.1 r16.2.2.2.1 r16.2.2.2.2) fun r17 => some ((8 : Int), (⟨#[]⟩ : ByteArray), (⟨#[]⟩ : ByteArray), r16.1, (0 : Int), (0 : Int), (⟨#[]⟩ : ByteArray), ([] : List T), r17.1, ([] : List T), r1, r17.2.1, r17.2.2.1, r17.2.2.2.1, r17.2.2.2.2)) (StQ A N i) := by
   refine comes_bind (number_c hA (by omega) 9 false hi1 hi2 b0 b1) fun r hr => ?_
   obtain ⟨u0, u1, u2, u3, u4⟩ := r
   obtain ⟨hr, hr2⟩ := hr
   obtain ⟨e1, e2, e3, e4, e5, e6⟩ := hr
   simp only at e1 e2 e3 e4 e5 e6 ⊢
   subst e1
   refine comes_bind (hb u2 u3 u4 (by omega) e3 e4 e5) fun r hr => ?_
   obtain ⟨w0, w1, w2, w3, w4⟩ := r
   obtain ⟨⟨bl, hbl, hbc, hbg⟩, g1, g2, g3, g4, g5, g6⟩ := hr
   simp only at hbl hbc g1 g2 g3 g4 g5 g6 ⊢
   subst g1
   subst hbl
   refine comes_some ⟨⟨bl, [], rfl, by simp only [encSLJ], ?_, fun _ => ?_, hat, hbg, gdL_nil⟩, ⟨rfl, ?_, g3, g4, g5, fun h => by cases h⟩⟩ <;> simp only [cntL] <;> omega
  have lg : Comes (Option.bind (m_sutureref1_Keyword n (y.cell 1).str) fun r18 => bif r18 then (Option.bind (m___sutureref1_Reader__failAt n (i + 1 - 1) A (i + 1) false b) fun r19 => some ((0 : Int), (⟨#[]⟩ : ByteArray), (⟨#[]⟩ : ByteArray), (0 : Int), (0 : Int), (0 : Int), (⟨#[]⟩ : ByteArray), ([] : List T), ([] : List T), ([] : List T), r1, r19.1, r19.2.1, r19.2.2.1, r19.2.2.2)) else (Option.bind (m___sutureref1_Reader__must n (⟨#[61]⟩ : ByteArray) A (i + 1) false b) fun r20 => Option.bind (m___sutureref1_Reader__whole n s r20.1 r20.2.1 r20.2.2.1 r20.2.2.2) fun r21 => some ((1 : Int), (y.cell 1).str, (⟨#[]⟩ : ByteArray), (0 : Int), r21.1, r21.2.1, r21.2.2.1, r21.2.2.2.1, ([] : List T), ([] : List T), r1, r21.2.2.2.2.1, r21.2.2.2.2.2.1, r21.2.2.2.2.2.2.1, r21.2.2.2.2.2.2.2))) (StQ A N i) := by
   refine comes_bind (keyword_c n (by omega) _) fun r18 _ => ?_
   refine comes_cond (fun _ => ?_) (fun _ => ?_)
   ·refine comes_bind (failAt_c hA false hi1 hi2 b0 b1 (by omega) (by omega)) fun r hr => ?_
    obtain ⟨u1, u2, u3, u4⟩ := r
    exact comes_some (fin _ _ _ _ _ _ _ _ _ _ hat hr.1)
   ·refine comes_bind (must_c hA _ false hi1 hi2 b0 b1) fun r hr => ?_
    obtain ⟨u1, u2, u3, u4⟩ := r
    obtain ⟨hr, hr2⟩ := hr
    obtain ⟨e1, e2, e3, e4, e5, e6⟩ := hr
    simp only at e1 e2 e3 e4 e5 e6 ⊢
    subst e1
    refine comes_bind (whole_c hA hn s u3 (by omega) e3 e4 e5) fun r hr3 => ?_
    obtain ⟨v0, v1, v2, v3, v4⟩ := r
    exact comes_some (fin _ _ _ _ _ _ _ _ _ _ hat (Stp.trans (q := (u1, u2, u3, u4)) ⟨rfl, e2, e3, e4, e5, e6⟩ hr3))
  repeat' first
   | exact la _
   | exact lb
   | exact lc
   | exact ld
   | exact le
   | exact lf
   | exact lg
   | refine comes_cond (fun _ => ?_) (fun _ => ?_)
theorem block_c {c : B___sutureref1_Reader__block} {deep : Int} (d0 : 0 <= deep)
  (hb : deep <= 8 -> ∀ (i b : Int), 0 <= i -> i <= N -> 0 <= b -> b <= N -> Comes (c.__sutureref1_Reader__stmt s deep A i false b) (StQ A N i)) :
  ∀ (i : Int) (f : Bool) (b : Int), 0 <= i -> i <= N -> 0 <= b -> b <= N -> Comes (f___sutureref1_Reader__block c n s deep A i f b) (BlQ A N i f) := by
 have hs := hA.small
 have loop : ∀ (m : Nat) (i : Int) (f : Bool) (b : Int) (l : List S), 0 <= i -> i <= N -> 0 <= b -> b <= N -> (deep <= 8 \/ f = true) -> N - i + (bif f then 0 else 1) < m -> ((cntL l : Nat) : Int) <= i -> Comes (l___sutureref1_Reader__block_5 c n m (s, deep, encSLJ l, A, i, f, b)) fun r => (∃ k : List S, r.1 = encSLJ (l ++ k) /\ ((cntL k : Nat) : Int) <= r.2.2.1 - i /\ gdL k) /\ Stp A N i f r.2 := by
  intro m
  induction m with
  | zero => intro i f b l h0 h1 b0 b1 hd hm; cases f <;> simp only [cond_true, cond_false] at hm <;> omega
  | succ m ih =>
   intro i f b l h0 h1 b0 b1 hd hm hl
   rw [l___sutureref1_Reader__block_5]
   unfold l___sutureref1_Reader__block_5_B
   simp only
   have stop : ∀ (q : List T × Int × Bool × Int), q = (A, i, f, b) -> Comes (some (encSLJ l, q.1, q.2.1, q.2.2.1, q.2.2.2)) fun r => (∃ k : List S, r.1 = encSLJ (l ++ k) /\ ((cntL k : Nat) : Int) <= r.2.2.1 - i /\ gdL k) /\ Stp A N i f r.2 := by
    rintro q rfl
    exact comes_some ⟨⟨[], by rw [List.append_nil], by simp only [cntL]; omega, gdL_nil⟩, Stp.refl h1 b0 b1⟩
   cases f with
   | true =>
    simp only [Bool.not_true, cond_false, Option.bind_some]
    exact stop (A, i, true, b) rfl
   | false =>
    have hd : deep <= 8 := by
     rcases hd with h | h
     ·exact h
     ·cases h
    simp only [Bool.not_false, cond_true]
    refine comes_bind (sign_c hA (b := b) _ false h0 h1) fun r hr => ?_
    obtain ⟨q1, w5⟩ := r
    obtain ⟨rfl, hq1⟩ := hr
    simp only at hq1 ⊢
    refine comes_cond (fun _ => ?_) (fun _ => stop (A, i, false, b) rfl)
    refine comes_bind (hb hd i b h0 h1 b0 b1) fun r hr => ?_
    obtain ⟨k, nm, ot, num, ek, en, es, eof, bo, els, ⟨re, im⟩, u1, u2, u3, u4⟩ := r
    obtain ⟨⟨bl, el, rfl, rfl, c1, c2, c3, c4, c5⟩, g1, g2, g3, g4, g5, g6⟩ := hr
    simp only at c1 c2 c3 g1 g2 g3 g4 g5 g6 ⊢
    subst g1
    cases u3 with
    | true =>
     simp only [Bool.not_true, cond_false]
     refine comes_mono (ih u2 true u4 l (by omega) g3 g4 g5 (.inr rfl) ?_ (by omega)) fun a ha => ?_
     ·simp only [cond_true, cond_false] at hm ⊢; omega
     obtain ⟨⟨k, hk1, hk2, hk3⟩, ha⟩ := ha
     refine ⟨⟨k, hk1, by omega, hk3⟩, ⟨ha.same, by have := ha.le; omega, ha.top, ha.bad0, ha.bad1, fun h => by cases h⟩⟩
    | false =>
     simp only [Bool.not_false, cond_true]
     have c2 := c2 rfl
     have hlen := len_cnt l
     refine comes_must ?_ ?_
     ·simp only [List.length_cons, List.length_nil, Bool.and_eq_true, decide_eq_true_eq]
      exact ⟨rfl, by omega, rfl⟩
     have e : encSLJ l ++ [T.agg [(T.sc (.int .i64 k)), (T.sc (.string nm)), (T.sc (.string ot)), (T.sc (.int .i64 num)), (T.sc (.int .i64 ek)), (T.sc (.int .i64 en)), (T.sc (.string es)), (T.list eof), (T.list (encSLJ bl)), (T.list (encSLJ el)), (T.sc (.complex .f64 re im))]] = encSLJ (l ++ [S.mk k nm ot num ek en es eof bl el re im]) := by
      rw [encSL_appendJ, encSL_oneJ]; simp only [S.enc]
     rw [e]
     have ec : cntL [S.mk k nm ot num ek en es eof bl el re im] = 1 + cntL bl + cntL el := by simp only [cntL, S.cnt]; omega
     refine comes_mono (ih u2 false u4 (l ++ [S.mk k nm ot num ek en es eof bl el re im]) (by omega) g3 g4 g5 (.inl hd) ?_ ?_) fun a ha => ?_
     ·simp only [cond_true, cond_false] at hm ⊢; omega
     ·rw [cntL_append, ec]; omega
     obtain ⟨⟨k2, hk1, hk2, hk3⟩, ha⟩ := ha
     refine ⟨⟨[S.mk k nm ot num ek en es eof bl el re im] ++ k2, by rw [hk1, List.append_assoc], ?_, gdL_append _ _ (by simp only [gdL, gdS]; exact ⟨⟨c3, c4, c5⟩, trivial⟩) hk3⟩, ⟨ha.same, by have := ha.le; omega, ha.top, ha.bad0, ha.bad1, fun h => by cases h⟩⟩
     rw [cntL_append, ec]; omega
 intro i f b h0 h1 b0 b1
 have rest : ∀ (i1 : Int) (f1 : Bool) (b1' : Int), i <= i1 -> i1 <= N -> 0 <= b1' -> b1' <= N -> (deep <= 8 \/ f1 = true) -> (f = true -> f1 = true) -> Comes (Option.bind (m___sutureref1_Reader__must n (⟨#[123]⟩ : ByteArray) A i1 f1 b1') fun r7 => Option.bind (l___sutureref1_Reader__block_5 c n n (s, deep, ([] : List T), r7.1, r7.2.1, r7.2.2.1, r7.2.2.2)) fun p9 => Option.bind (m___sutureref1_Reader__must n (⟨#[125]⟩ : ByteArray) p9.2.1 p9.2.2.1 p9.2.2.2.1 p9.2.2.2.2) fun r10 => some (p9.1, r10.1, r10.2.1, r10.2.2.1, r10.2.2.2)) (BlQ A N i f) := by
  intro i1 f1 b1' j0 j1 j2 j3 hd hf
  refine comes_bind (must_c hA _ f1 (by omega) j1 j2 j3) fun r hr => ?_
  obtain ⟨u1, u2, u3, u4⟩ := r
  obtain ⟨⟨e1, e2, e3, e4, e5, e6⟩, _⟩ := hr
  simp only at e1 e2 e3 e4 e5 e6 ⊢
  subst e1
  have e0 : ([] : List T) = encSLJ [] := by simp only [encSLJ]
  rw [e0]
  refine comes_bind (loop n u2 u3 u4 [] (by omega) e3 e4 e5 (hd.imp id e6) (by cases u3 <;> simp only [cond_true, cond_false] <;> omega) (by simp only [cntL]; omega)) fun r hr => ?_
  obtain ⟨w0, w1, w2, w3, w4⟩ := r
  obtain ⟨⟨k, hk, hkc, hkg⟩, g1, g2, g3, g4, g5, g6⟩ := hr
  simp only [List.nil_append] at hk hkc g1 g2 g3 g4 g5 g6 ⊢
  subst g1
  subst hk
  refine comes_bind (must_c hA _ w3 (by omega) g3 g4 g5) fun r hr => ?_
  obtain ⟨x1, x2, x3, x4⟩ := r
  obtain ⟨⟨k1, k2, k3, k4, k5, k6⟩, _⟩ := hr
  simp only at k1 k2 k3 k4 k5 k6 ⊢
  refine comes_some ⟨⟨k, rfl, by simp only; omega, hkg⟩, ⟨k1, by simp only; omega, k3, k4, k5, fun h => k6 (g6 (e6 (hf h)))⟩⟩
 unfold f___sutureref1_Reader__block
 refine comes_cond (fun hc => ?_) (fun hc => ?_)
 ·refine comes_bind (fail_c hA f h0 h1 b0 b1) fun r hr => ?_
  obtain ⟨u1, u2, u3, u4⟩ := r
  obtain ⟨⟨e1, e2, e3, e4, e5, e6⟩, e7, _⟩ := hr
  simp only at e1 e2 e3 e4 e5 e6 e7 ⊢
  subst e1
  exact rest u2 u3 u4 e2 e3 e4 e5 (.inr e7) e6
 ·have hd := of_decide_eq_false hc
  exact rest i f b (Int.le_refl _) h1 b0 b1 (.inl (by omega)) id
theorem blocks_c : ∀ (m : Nat) (deep : Int), 0 <= deep -> deep <= 9 →
  (2 * (9 - deep) + 1 <= m -> ∀ (i : Int) (f : Bool) (b : Int), 0 <= i -> i <= N -> 0 <= b -> b <= N -> Comes ((unB___sutureref1_Reader__block n m).__sutureref1_Reader__block s deep A i f b) (BlQ A N i f)) ∧
  (deep <= 8 -> 2 * (9 - deep) <= m -> ∀ (i b : Int), 0 <= i -> i <= N -> 0 <= b -> b <= N -> Comes ((unB___sutureref1_Reader__block n m).__sutureref1_Reader__stmt s deep A i false b) (StQ A N i)) := by
 intro m
 induction m with
 | zero => intro deep d0 d1; exact ⟨fun h => by omega, fun h h2 => by omega⟩
 | succ m ih =>
  intro deep d0 d1
  refine ⟨fun h => ?_, fun hd h => ?_⟩
  ·exact block_c hA hn hs0 hsn d0 (fun hd => (ih deep d0 d1).2 hd (by omega))
  ·exact stmt_c hA hn hs0 hsn d0 hd ((ih (deep + 1) (by omega) (by omega)).1 (by omega))
end
end Go.Proofs.Ytgpokdaacbjimab.W
namespace Go.Proofs.Ytgpokdaacbjimab.W
open Go Go.Eng
set_option linter.unusedVariables false
set_option linter.unusedSimpArgs false
set_option linter.unusedSectionVars false
def encP (P : List (List S)) : List T := P.map fun l => T.list (encSLJ l)
def gdPr (P : List (List S)) : Prop := ∀ l ∈ P, gdL l
def cntP : List (List S) -> Nat
 | [] => 0
 | l :: r => cntL l + cntP r
theorem cntP_append : ∀ (l k : List (List S)), cntP (l ++ k) = cntP l + cntP k
 | [], k => by simp only [cntP, List.nil_append]; omega
 | s :: l, k => by simp only [cntP, List.cons_append, cntP_append l k]; omega
section
variable {A : List T} {N : Int} (hA : Toks A N) {n : Nat} (hn : 6002 < n) {s : ByteArray} (hs0 : (L s).length <= 281474976710656) (hsn : (L s).length < n)
include hA hn hs0 hsn
theorem decls_c : ∀ (m : Nat) (i : Int) (f : Bool) (b : Int) (d : List T), 0 <= i -> i <= N -> 0 <= b -> b <= N -> N - i + (bif f then 0 else 1) < m -> d.length <= 24 -> ∀ s1 s2 s3 s9, Comes (l_sutureref1_Parse_6 n m (s, s1, s2, s3, A, i, f, b, d, s9)) fun r => r.1 = s /\ r.2.1 = s1 /\ Stp A N i f (r.2.2.2.2.1, r.2.2.2.2.2.1, r.2.2.2.2.2.2.1, r.2.2.2.2.2.2.2.1) /\ r.2.2.2.2.2.2.2.2.2 = s9 := by
 have hs := hA.small
 intro m
 induction m with
 | zero => intro i f b d h0 h1 b0 b1 hm; cases f <;> simp only [cond_true, cond_false] at hm <;> omega
 | succ m ih =>
  intro i f b d h0 h1 b0 b1 hm hd s1 s2 s3 s9
  rw [l_sutureref1_Parse_6]
  unfold l_sutureref1_Parse_6_B
  simp only
  refine comes_bind (tok_c hA _ h0 h1) fun y1 hy1 => ?_
  refine comes_bind (tok_c hA _ h0 h1) fun y2 hy2 => ?_
  refine comes_bind (P := fun _ => True) (comes_cond (fun _ => declKind_c n (by omega) _) (fun _ => comes_some trivial)) fun r3 _ => ?_
  refine comes_cond (fun hk => ?_) (fun _ => comes_some ⟨rfl, rfl, Stp.refl h1 b0 b1, rfl⟩)
  cases f with
  | true => simp at hk
  | false =>
   have hy1 := hy1 rfl
   simp only [Bool.not_false, cond_true] at hk
   have hlt : i < N := by
    cases hk1 : (((y1.cell 0).int : Int) == 1) with
    | false => rw [hk1] at hk; simp at hk
    | true => have := beq_iff_eq.1 hk1; exact hy1 (by omega)
   simp only [cond_false] at hm
   refine comes_cond (fun _ => ?_) (fun h24 => ?_)
   ·refine comes_bind (fail_c hA false h0 h1 b0 b1) fun r hr => ?_
    obtain ⟨u1, u2, u3, u4⟩ := r
    exact comes_some ⟨rfl, rfl, hr.1, rfl⟩
   ·have h24 : d.length < 24 := by
     have : ¬ ((d.length : Nat) : Int) = 24 := by simpa using h24
     omega
    refine comes_bind (tok_c hA _ h0 h1) fun y5 _ => ?_
    refine comes_bind (declKind_c n (by omega) _) fun r6 _ => ?_
    refine comes_bind (tok_c hA _ h0 h1) fun y7 _ => ?_
    refine comes_bind (place_c hs0 hsn _) fun r8 _ => ?_
    rw [wrap_id (show -9223372036854775808 <= i + 1 by omega) (by omega)]
    refine comes_bind (name_c hA (by omega) false (by omega) (by omega) b0 b1) fun r hr => ?_
    obtain ⟨u0, u1, u2, u3, u4⟩ := r
    obtain ⟨hr, _⟩ := hr
    obtain ⟨e1, e2, e3, e4, e5, e6⟩ := hr
    simp only at e1 e2 e3 e4 e5 e6 ⊢
    subst e1
    have fin : ∀ (i1 : Int) (f1 : Bool) (b1' : Int) (x : T), i + 1 <= i1 -> i1 <= N -> 0 <= b1' -> b1' <= N -> Comes (l_sutureref1_Parse_6 n m (s, s1, s2, s3, u1, i1, f1, b1', d ++ [x], s9)) fun r => r.1 = s /\ r.2.1 = s1 /\ Stp u1 N i false (r.2.2.2.2.1, r.2.2.2.2.2.1, r.2.2.2.2.2.2.1, r.2.2.2.2.2.2.2.1) /\ r.2.2.2.2.2.2.2.2.2 = s9 := by
     intro i1 f1 b1' x j0 j1 j2 j3
     refine comes_mono (ih i1 f1 b1' (d ++ [x]) (by omega) j1 j2 j3 (by cases f1 <;> simp only [cond_true, cond_false] <;> omega) (by simp; omega) s1 s2 s3 s9) fun a ha => ?_
     obtain ⟨h1, h2, h3, h4⟩ := ha
     exact ⟨h1, h2, ⟨h3.same, by have := h3.le; omega, h3.top, h3.bad0, h3.bad1, fun h => by cases h⟩, h4⟩
    refine comes_cond (fun _ => ?_) (fun _ => ?_)
    ·refine comes_bind (number_c hA (by omega) 3 u3 (by omega) e3 e4 e5) fun r hr => ?_
     obtain ⟨v0, v1, v2, v3, v4⟩ := r
     obtain ⟨hr, _⟩ := hr
     obtain ⟨g1, g2, g3, g4, g5, g6⟩ := hr
     simp only at g1 g2 g3 g4 g5 g6 ⊢
     subst g1
     refine comes_must ?_ ?_
     ·simp only [List.length_cons, List.length_nil, Bool.and_eq_true, decide_eq_true_eq]
      exact ⟨rfl, by omega, rfl⟩
     exact fin _ _ _ _ (by omega) g3 g4 g5
    ·refine comes_must ?_ ?_
     ·simp only [List.length_cons, List.length_nil, Bool.and_eq_true, decide_eq_true_eq]
      exact ⟨rfl, by omega, rfl⟩
     exact fin _ _ _ _ (by omega) e3 e4 e5
theorem threads_c : ∀ (m : Nat) (i : Int) (f : Bool) (b : Int) (P : List (List S)), 0 <= i -> i <= N -> 0 <= b -> b <= N -> N - i + (bif f then 0 else 1) < m -> P.length <= 4 -> ((cntP P : Nat) : Int) <= i -> gdPr P -> ∀ s1 s2 s3 s8, Comes (l_sutureref1_Parse_15 n m (s, s1, s2, s3, A, i, f, b, s8, encP P)) fun r => r.1 = s1 /\ Stp A N i f (r.2.2.2.1, r.2.2.2.2.1, r.2.2.2.2.2.1, r.2.2.2.2.2.2.1) ∧
  ∃ Q : List (List S), r.2.2.2.2.2.2.2.2 = encP Q /\ Q.length <= 4 /\ ((cntP Q : Nat) : Int) <= r.2.2.2.2.1 /\ gdPr Q := by
 have hs := hA.small
 intro m
 induction m with
 | zero => intro i f b P h0 h1 b0 b1 hm; cases f <;> simp only [cond_true, cond_false] at hm <;> omega
 | succ m ih =>
  intro i f b P h0 h1 b0 b1 hm hP hc hg s1 s2 s3 s8
  rw [l_sutureref1_Parse_15]
  unfold l_sutureref1_Parse_15_B
  simp only
  have hlP : (encP P).length = P.length := by simp [encP]
  refine comes_bind (tok_c hA _ h0 h1) fun y1 hy1 => ?_
  refine comes_cond (fun hk => ?_) (fun _ => comes_some ⟨rfl, Stp.refl h1 b0 b1, P, rfl, hP, hc, hg⟩)
  cases f with
  | true => simp at hk
  | false =>
   simp only [cond_false] at hm
   refine comes_bind (word_c hA (b := b) _ false h0 h1) fun r hr => ?_
   obtain ⟨q1, w5⟩ := r
   obtain ⟨rfl, hq1⟩ := hr
   simp only at hq1 ⊢
   refine comes_cond (fun _ => ?_) (fun hk2 => ?_)
   ·refine comes_bind (fail_c hA false h0 h1 b0 b1) fun r hr => ?_
    obtain ⟨u1, u2, u3, u4⟩ := r
    exact comes_some ⟨rfl, hr.1, P, rfl, hP, by have := hr.1.le; simp only at this ⊢; omega, hg⟩
   ·cases q1 with
    | false => simp at hk2
    | true =>
     obtain ⟨_, hlt⟩ := hq1 rfl
     have h4 : P.length < 4 := by
      rw [hlP] at hk2
      have : ¬ ((P.length : Nat) : Int) = 4 := by simpa using hk2
      omega
     rw [wrap_id (show -9223372036854775808 <= i + 1 by omega) (by omega)]
     refine comes_bind ((blocks_c hA hn hs0 hsn n 1 (by omega) (by omega)).1 (by omega) (i + 1) false b (by omega) (by omega) b0 b1) fun r hr => ?_
     obtain ⟨w0, w1, w2, w3, w4⟩ := r
     obtain ⟨⟨l, hl, hlc, hlg⟩, g1, g2, g3, g4, g5, g6⟩ := hr
     simp only at hl hlc g1 g2 g3 g4 g5 g6 ⊢
     subst g1
     subst hl
     refine comes_must ?_ ?_
     ·rw [hlP]
      simp only [List.length_cons, List.length_nil, Bool.and_eq_true, decide_eq_true_eq]
      exact ⟨rfl, by omega, rfl⟩
     have e : encP P ++ [T.list (encSLJ l)] = encP (P ++ [l]) := by simp [encP]
     rw [e]
     have ec : cntP (P ++ [l]) = cntP P + cntL l := by rw [cntP_append]; simp only [cntP]; omega
     refine comes_mono (ih w2 w3 w4 (P ++ [l]) (by omega) g3 g4 g5 (by cases w3 <;> simp only [cond_true, cond_false] <;> omega) (by simp; omega) (by rw [ec]; omega) (by intro x hx; simp only [List.mem_append, List.mem_singleton] at hx; rcases hx with hx | rfl; exact hg x hx; exact hlg) s1 s2 s3 s8) fun a ha => ?_
     obtain ⟨k1, k2, k3⟩ := ha
     exact ⟨k1, ⟨k2.same, by have := k2.le; omega, k2.top, k2.bad0, k2.bad1, fun h => by cases h⟩, k3⟩
end
theorem parse_c {n : Nat} {s : ByteArray} (hs0 : (L s).length <= 281474976710656) (hsn : (L s).length + 6100 < n) : Comes (m_sutureref1_Parse n s) fun r => ∃ P : List (List S), r.2.1 = encP P /\ P.length <= 4 /\ cntP P <= 6000 /\ gdPr P := by
 have none_ : ∀ (a b : Int) (d : List T), Comes (some (d, ([] : List T), a, b)) fun r => ∃ P : List (List S), r.2.1 = encP P /\ P.length <= 4 /\ cntP P <= 6000 /\ gdPr P := fun a b d => comes_some ⟨[], rfl, by simp, by simp [cntP], fun l hl => by simp at hl⟩
 unfold m_sutureref1_Parse
 rw [tokensR_eq (by omega)]
 simp only [Option.bind_some]
 unfold toksR
 by_cases h6 : 6000 < (L s).length
 ·rw [if_pos h6]
  exact none_ _ _ _
 ·rw [if_neg h6]
  cases hr2 : lexR (L s) 0 [] with
  | bad q => exact none_ _ _ _
  | ok l =>
   have h1 := lexR_len _ (L s) 0 [] l (Nat.le_refl _) hr2
   simp only [List.length_nil] at h1
   have e0 : ((0 : Int) != 0) = false := rfl
   simp only [e0, cond_false]
   generalize hA : (l ++ [(⟨4, [], 0, (L s).length⟩ : Tok)]).map encR = A
   have hT : Toks A (l.length : Int) := by
    subst hA
    refine ⟨by simp, by omega, by omega, fun i hi => ?_⟩
    simp only [List.length_map, List.length_append, List.length_cons, List.length_nil] at hi
    by_cases hil : i < l.length
    ·refine ⟨l[i], ?_, fun _ => by omega⟩
     rw [List.getElem?_map, List.getElem?_append_left hil, List.getElem?_eq_getElem hil]; rfl
    ·refine ⟨⟨4, [], 0, (L s).length⟩, ?_, fun h => absurd rfl h⟩
     have : i = l.length := by omega
     subst this
     rw [List.getElem?_map, List.getElem?_append_right (Nat.le_refl _)]; simp
   refine comes_bind (decls_c hT (by omega) hs0 (by omega) n 0 false 0 [] (by omega) hT.pos (by omega) hT.pos (by simp only [cond_false]; omega) (by simp) A [] [] []) fun p hp => ?_
   obtain ⟨p1, p2, p3, p4, p5, p6, p7, p8, p9, p10⟩ := p
   obtain ⟨q1, q2, ⟨g1, g2, g3, g4, g5, g6⟩, q4⟩ := hp
   simp only at q1 q2 q4 g1 g2 g3 g4 g5 g6 ⊢
   subst q1 q2 g1 q4
   have e1 : ([] : List T) = encP [] := rfl
   rw [e1]
   refine comes_bind (threads_c hT (by omega) hs0 (by omega) n p6 p7 p8 [] (by omega) g3 g4 g5 (by cases p7 <;> simp only [cond_true, cond_false] <;> omega) (by simp) (by simp only [cntP]; omega) (fun l hl => by simp at hl) p5 p3 p4 p9) fun p hp => ?_
   obtain ⟨u1, u2, u3, u4, u5, u6, u7, u8, u9⟩ := p
   obtain ⟨q1, ⟨g1, g2, g3, g4, g5, g6⟩, Q, hQ1, hQ2, hQ3, hQ4⟩ := hp
   simp only at q1 hQ1 hQ3 g1 g2 g3 g4 g5 g6 ⊢
   subst q1
   refine comes_cond (fun _ => ?_) (fun _ => ?_)
   ·refine comes_bind (tok_c hT true g4 g5) fun y _ => none_ _ _ _
   ·exact comes_some ⟨Q, hQ1, hQ2, by omega, hQ4⟩
end Go.Proofs.Ytgpokdaacbjimab.W
namespace Go.Proofs.Ytgpokdaacbjimab.W
open Go Go.Eng
set_option linter.unusedVariables false
set_option linter.unusedSimpArgs false
theorem maxIJ : (IntKind.i64.max : Int) = 9223372036854775807 := rfl
def int1J (x : Int) : T := .sc (.int .i64 x)
theorem idx_intsJ {v : List Int} {i : Nat} (h : i < v.length) : idx true [.int .i64] (ints .i64 v) (i : Int) = some (int1J v[i]) := by
 have h0 : decide ((0 : Int) <= (i : Int)) = true := by simp
 simp only [idx, cond_true, h0, Int.toNat_natCast, ints, List.getElem?_map, List.getElem?_eq_getElem h, Option.map_some]
 rfl
theorem idx1_strJ {v : List T} {i : Nat} {k : Nat} (h : i < v.length) (hv : ∀ x ∈ v, ∃ s, x = .sc (.string s) /\ s.size <= k) : Comes (idx1 true .str v (i : Int)) fun y => y.str.size <= k := by
 unfold idx1
 simp only [cond_true, decide_eq_true (show (0 : Int) <= (i : Int) by omega), Int.toNat_natCast, List.getElem?_eq_getElem h]
 obtain ⟨s, hs, hk⟩ := hv _ (List.getElem_mem h)
 rw [hs]
 exact ⟨_, rfl, hk⟩
theorem app_size (x y : ByteArray) : (x ++ y).size = x.size + y.size := ByteArray.size_append
theorem deep_c {n : Nat} {z : List Int} (hz : z.length <= 17592186044416) (hn : 11 * z.length + 7000 < n) : Comes (m_suturelaw9_deep n (ints .i64 z)) fun r => ∃ P : List (List S), r.2 = encP P /\ P.length <= 4 /\ cntP P <= 6000 /\ gdPr P := by
 have names : ∀ x ∈ [(T.sc (.string (⟨#[97]⟩ : ByteArray))), (T.sc (.string (⟨#[98]⟩ : ByteArray))), (T.sc (.string (⟨#[101]⟩ : ByteArray)))], ∃ s, x = .sc (.string s) /\ s.size <= 1 := by
  intro x hx
  simp only [List.mem_cons, List.not_mem_nil, or_false] at hx
  rcases hx with rfl | rfl | rfl <;> exact ⟨_, rfl, Nat.le_refl _⟩
 have heads : ∀ x ∈ [(T.sc (.string (⟨#[32, 105, 102, 32, 49, 32, 123]⟩ : ByteArray))), (T.sc (.string (⟨#[32, 114, 101, 112, 101, 97, 116, 32, 50, 32, 123]⟩ : ByteArray)))], ∃ s, x = .sc (.string s) /\ s.size <= 11 := by
  intro x hx
  simp only [List.mem_cons, List.not_mem_nil, or_false] at hx
  rcases hx with rfl | rfl <;> exact ⟨_, rfl, by decide⟩
 have g1 : (⟨#[32, 103, 111, 116, 111, 32]⟩ : ByteArray).size = 6 := rfl
 have g2 : (⟨#[32, 108, 97, 98, 101, 108, 32]⟩ : ByteArray).size = 7 := rfl
 have g3 : (⟨#[125]⟩ : ByteArray).size = 1 := rfl
 have g4 : (⟨#[125, 32, 103, 111, 32, 123]⟩ : ByteArray).size = 6 := rfl
 have g5 : (⟨#[103, 111, 123]⟩ : ByteArray).size = 3 := rfl
 have ten : (!decide ((10 : Nat) = 0)) = true := rfl
 have loop : ∀ (m i : Nat) (s0 : ByteArray) (op : Int), i <= z.length -> z.length - i < m -> s0.size <= 3 + 11 * i -> 0 <= op -> op <= 5 -> ∀ s5 s6, Comes (l_suturelaw9_deep_4 n m (s0, op, ints .i64 z, ((List.length (ints .i64 z) : Nat) : Int), (i : Int), s5, s6)) fun r => r.1.size <= 3 + 11 * z.length /\ 0 <= r.2.1 /\ r.2.1 <= 5 := by
  intro m
  induction m with
  | zero => intro i s0 op hi hm; omega
  | succ m ih =>
   intro i s0 op hi hm hs o0 o1 s5 s6
   rw [l_suturelaw9_deep_4]
   unfold l_suturelaw9_deep_4_B
   simp only
   have hlen : (List.length (ints .i64 z) : Nat) = z.length := by simp [ints]
   refine comes_cond (fun hc => ?_) (fun _ => comes_some ⟨by simp only; omega, o0, o1⟩)
   have hc := of_decide_eq_true hc
   rw [hlen] at hc
   have hlt : i < z.length := by omega
   rw [idx_intsJ hlt]
   simp only [Option.bind_some]
   rw [wrap_up (show i <= 281474976710656 by omega)]
   obtain ⟨k, hk1, hk2⟩ := pick_eq n ((int1J z[i]).cell 0).int 10 (by omega) (by omega)
   obtain ⟨k3, h31, h32⟩ := pick_eq n (IntKind.wrap .i64 (Int.tdiv ((int1J z[i]).cell 0).int 10)) 3 (by omega) (by omega)
   obtain ⟨k2, h21, h22⟩ := pick_eq n (IntKind.wrap .i64 (Int.tdiv ((int1J z[i]).cell 0).int 10)) 2 (by omega) (by omega)
   rw [hk1, h31, h21]
   simp only [Option.bind_some]
   have next := fun (t0 : ByteArray) (op2 : Int) (h1 : t0.size <= 3 + 11 * (i + 1)) (h2 : 0 <= op2) (h3 : op2 <= 5) => ih (i + 1) t0 op2 (by omega) (by omega) h1 h2 h3 s5 s6
   refine comes_cond (fun _ => ?_) (fun _ => ?_)
   ·refine comes_must (by rw [decide_eq_true_eq, maxIJ, g1]; omega) (comes_must ten ?_)
    refine comes_bind (idx1_strJ (k := 1) (show k3 < 3 by omega) names) fun y hy => ?_
    refine comes_must (by rw [decide_eq_true_eq, maxIJ, app_size, g1]; omega) ?_
    exact next _ _ (by rw [app_size, app_size, g1]; omega) o0 o1
   ·refine comes_cond (fun _ => ?_) (fun _ => ?_)
    ·refine comes_must (by rw [decide_eq_true_eq, maxIJ, g2]; omega) (comes_must ten ?_)
     refine comes_bind (idx1_strJ (k := 1) (show k3 < 3 by omega) names) fun y hy => ?_
     refine comes_must (by rw [decide_eq_true_eq, maxIJ, app_size, g2]; omega) ?_
     exact next _ _ (by rw [app_size, app_size, g2]; omega) o0 o1
    ·refine comes_cond (fun _ => ?_) (fun _ => ?_)
     ·refine comes_cond (fun ho => ?_) (fun _ => next _ _ (by omega) o0 o1)
      have ho := of_decide_eq_true ho
      refine comes_must ten ?_
      refine comes_bind (idx1_strJ (k := 11) (show k2 < 2 by omega) heads) fun y hy => ?_
      refine comes_must (by rw [decide_eq_true_eq, maxIJ]; omega) ?_
      rw [wrap_id (show -9223372036854775808 <= op + 1 by omega) (by omega)]
      exact next _ _ (by rw [app_size]; omega) (by omega) (by omega)
     ·refine comes_cond (fun _ => ?_) (fun _ => ?_)
      ·refine comes_cond (fun ho => ?_) (fun _ => next _ _ (by omega) o0 o1)
       have ho := of_decide_eq_true ho
       refine comes_must (by rw [decide_eq_true_eq, maxIJ, g3]; omega) ?_
       rw [wrap_id (show -9223372036854775808 <= op - 1 by omega) (by omega)]
       exact next _ _ (by rw [app_size, g3]; omega) (by omega) (by omega)
      ·refine comes_cond (fun ho => ?_) (fun _ => next _ _ (by omega) o0 o1)
       refine comes_must (by rw [decide_eq_true_eq, maxIJ, g4]; omega) ?_
       exact next _ _ (by rw [app_size, g4]; omega) o0 o1
 have shut : ∀ (m : Nat) (s0 : ByteArray) (op : Int), -1 <= op -> op <= 5 -> op + 1 < m -> (s0.size : Int) <= 200000000000000 - op -> ∀ s2 s3, Comes (l_suturelaw9_deep_22 n m (s0, op, s2, s3)) fun r => (r.1.size : Int) <= s0.size + op + 1 := by
  intro m
  induction m with
  | zero => intro s0 op o0 o1 hm; omega
  | succ m ih =>
   intro s0 op o0 o1 hm hs s2 s3
   rw [l_suturelaw9_deep_22]
   unfold l_suturelaw9_deep_22_B
   simp only
   refine comes_cond (fun ho => ?_) (fun _ => comes_some (by simp only; omega))
   have ho := of_decide_eq_true ho
   refine comes_must (by rw [decide_eq_true_eq, maxIJ, g3]; omega) ?_
   rw [wrap_id (show -9223372036854775808 <= op - 1 by omega) (by omega)]
   refine comes_mono (ih (s0 ++ (⟨#[125]⟩ : ByteArray)) (op - 1) (by omega) (by omega) (by omega) (by rw [app_size, g3]; omega) s2 s3) fun a ha => ?_
   rw [app_size, g3] at ha
   omega
 unfold m_suturelaw9_deep
 refine comes_bind (loop n 0 _ 0 (by omega) (by omega) (by rw [g5]; omega) (by omega) (by omega) _ _) fun p hp => ?_
 obtain ⟨p1, p2, p3, p4⟩ := p
 obtain ⟨h1, h2, h3⟩ := hp
 simp only at h1 h2 h3 ⊢
 refine comes_bind (shut n p1 p2 (by omega) h3 (by omega) (by omega) p3 p4) fun q hq => ?_
 obtain ⟨q1, q2, q3⟩ := q
 simp only at hq ⊢
 unfold m_suturelaw9_read
 refine comes_bind (P := fun r => ∃ P : List (List S), r.2 = encP P /\ P.length <= 4 /\ cntP P <= 6000 /\ gdPr P) (comes_bind (parse_c (n := n) (s := q1) (by rw [<- size_L]; omega) (by rw [<- size_L]; omega)) fun r hr => comes_some hr) fun r hr => ?_
 exact comes_some hr
end Go.Proofs.Ytgpokdaacbjimab.W
namespace Go.Proofs.Ytgpokdaacbjimab.W
open Go Go.Eng
set_option linter.unusedVariables false
set_option linter.unusedSimpArgs false
set_option linter.unusedSectionVars false
theorem bind_eq {A R : Type} {m : Option A} {f : A -> Option R} {a : A} {r : Option R} (h : m = some a) (k : f a = r) : Option.bind m f = r := by rw [h]; exact k
theorem must_is {R : Type} {c φ : Bool} {x r : Option R} (h : φ = true) (k : x = r) : must c φ x = r := by rw [must_eq h]; exact k
theorem cond_yes {R : Type} {c : Bool} {a b r : R} (h : c = true) (k : a = r) : (bif c then a else b) = r := by rw [h]; exact k
theorem cond_no {R : Type} {c : Bool} {a b r : R} (h : c = false) (k : b = r) : (bif c then a else b) = r := by rw [h]; exact k
structure Pl where
 s : S
 th : Nat
 ar : List Nat
 c : Nat
def iN (k : Nat) : T := .sc (.int .i64 (k : Int))
def encPl (x : Pl) : T := match x.s with
 | .mk kind name other num ek en es eof body els re im => T.agg [(T.sc (.int .i64 kind)), (T.sc (.string name)), (T.sc (.string other)), (T.sc (.int .i64 num)), (T.sc (.int .i64 ek)), (T.sc (.int .i64 en)), (T.sc (.string es)), (T.list eof), (T.list (encSLJ body)), (T.list (encSLJ els)), (T.sc (.complex .f64 re im)), (T.sc (.int .i64 (x.th : Int))), (T.list (x.ar.map iN))]
mutual
def plS (th : Nat) : S -> List Nat -> Nat -> List Pl × Nat
 | .mk kind name other num ek en es eof body els re im, ar, k =>
  (⟨.mk kind name other num ek en es eof body els re im, th, ar, k⟩ :: ((plL th body (ar ++ [k]) (k + 1)).1 ++ (plL th els (ar ++ [(plL th body (ar ++ [k]) (k + 1)).2]) ((plL th body (ar ++ [k]) (k + 1)).2 + 1)).1),
   (plL th els (ar ++ [(plL th body (ar ++ [k]) (k + 1)).2]) ((plL th body (ar ++ [k]) (k + 1)).2 + 1)).2)
def plL (th : Nat) : List S -> List Nat -> Nat -> List Pl × Nat
 | [], ar, k => ([], k)
 | s :: r, ar, k => ((plS th s ar k).1 ++ (plL th r ar (plS th s ar k).2).1, (plL th r ar (plS th s ar k).2).2)
end
def plP : List (List S) -> Nat -> Nat -> List Pl × Nat
 | [], th, k => ([], k)
 | l :: r, th, k => ((plL th l [k] (k + 1)).1 ++ (plP r (th + 1) (plL th l [k] (k + 1)).2).1, (plP r (th + 1) (plL th l [k] (k + 1)).2).2)
mutual
theorem plS_len (th : Nat) : ∀ (s : S) (ar : List Nat) (k : Nat), (plS th s ar k).1.length = s.cnt /\ k <= (plS th s ar k).2 /\ (plS th s ar k).2 <= k + 2 * s.cnt
 | .mk kind name other num ek en es eof body els re im, ar, k => by
  obtain ⟨h1, h2, h3⟩ := plL_len th body (ar ++ [k]) (k + 1)
  obtain ⟨g1, g2, g3⟩ := plL_len th els (ar ++ [(plL th body (ar ++ [k]) (k + 1)).2]) ((plL th body (ar ++ [k]) (k + 1)).2 + 1)
  simp only [plS, S.cnt, List.length_cons, List.length_append]
  omega
theorem plL_len (th : Nat) : ∀ (l : List S) (ar : List Nat) (k : Nat), (plL th l ar k).1.length = cntL l /\ k <= (plL th l ar k).2 /\ (plL th l ar k).2 <= k + 2 * cntL l
 | [], ar, k => by simp [plL, cntL]
 | s :: r, ar, k => by
  obtain ⟨h1, h2, h3⟩ := plS_len th s ar k
  obtain ⟨g1, g2, g3⟩ := plL_len th r ar (plS th s ar k).2
  simp only [plL, cntL, List.length_append]
  omega
end
theorem encSL_lenJ : ∀ (l : List S), (encSLJ l).length = l.length
 | [] => by simp [encSLJ]
 | s :: r => by simp only [encSLJ, List.length_cons, encSL_lenJ r]
theorem encSL_atJ (pre : List S) (s : S) (r : List S) : (encSLJ (pre ++ s :: r))[pre.length]? = some s.enc := by
 rw [encSL_appendJ]
 rw [List.getElem?_append_right (by rw [encSL_lenJ]; exact Nat.le_refl _), encSL_lenJ, Nat.sub_self]
 simp only [encSLJ, List.getElem?_cons_zero]
theorem idx_SJ (pre : List S) (kind : Int) (name other : ByteArray) (num ek en : Int) (es : ByteArray) (eof : List T) (body els : List S) (re im : Nat) (r : List S) :
  idx true [.int .i64, .str, .str, .int .i64, .int .i64, .int .i64, .str, .list, .list, .list, .cplx .f64] (encSLJ (pre ++ S.mk kind name other num ek en es eof body els re im :: r)) (pre.length : Int) = some (S.enc (S.mk kind name other num ek en es eof body els re im)) := by
 have h0 : decide ((0 : Int) <= (pre.length : Int)) = true := by simp
 simp only [idx, cond_true, h0, Int.toNat_natCast, encSL_atJ]
 simp only [S.enc]
 rfl
theorem sized_iN (l : List Nat) : sized 1 (l.map iN) = true := by
 unfold sized
 rw [List.all_eq_true]
 intro y hy
 obtain ⟨t, _, rfl⟩ := List.mem_map.1 hy
 rfl
theorem clone_eq (n : Nat) (ar : List Nat) (h : ar.length <= 100000) : m_slices_Clone___int_int_ n (ar.map iN) = some (ar.map iN) := by
 unfold m_slices_Clone___int_int_
 refine must_is ?_ rfl
 rw [sized_iN]
 simp only [List.length_nil, List.length_map, Bool.and_true, Bool.and_eq_true, decide_eq_true_eq]
 exact ⟨rfl, by omega⟩
def PV (g : List T -> Int -> List T -> List T -> Int -> Option ((List T) × Int)) (l : List S) : Prop :=
 ∀ (th : Nat) (out : List T) (ar : List Nat) (k : Nat), ar.length <= k -> out.length + cntL l <= 100000 -> k + 2 * cntL l <= 100000 -> g out (th : Int) (ar.map iN) (encSLJ l) (k : Int) = some (out ++ (plL th l (ar ++ [k]) (k + 1)).1.map encPl, (((plL th l (ar ++ [k]) (k + 1)).2 : Nat) : Int))
section
variable {n : Nat}
theorem place_loop3 {b : B_jumps_place_v2} {K : Nat} (hb : ∀ l', cntL l' < K -> PV b.jumps_place_v3 l') (th : Nat) (ar : List Nat) : ∀ (m : Nat) (r pre : List S) (out : List T) (k : Nat), r.length < m -> cntL r <= K -> ar.length <= k -> out.length + cntL r <= 100000 -> k + 2 * cntL r <= 100001 -> pre.length + cntL r <= 100000 →
  l_jumps_place_v3_4 b n m (out, (th : Int), ar.map iN, encSLJ (pre ++ r), (((pre ++ r).length : Nat) : Int), (pre.length : Int), (k : Int)) = some (out ++ (plL th r ar k).1.map encPl, (((plL th r ar k).2 : Nat) : Int)) := by
 intro m
 induction m with
 | zero => intro r pre out k hm; omega
 | succ m ih =>
  intro r pre out k hm hK hk ho hk2 hp
  rw [l_jumps_place_v3_4]
  unfold l_jumps_place_v3_4_B
  simp only
  cases r with
  | nil =>
   refine cond_no (decide_eq_false (by simp)) ?_
   simp only [plL, List.map_nil, List.append_nil]
  | cons s r =>
   obtain ⟨kind, name, other, num, ek, en, es, eof, body, els, re, im⟩ := s
   simp only [cntL, S.cnt, List.length_cons] at hm hK ho hk2 hp
   refine cond_yes (decide_eq_true (by rw [List.length_append, List.length_cons]; omega)) ?_
   refine bind_eq (idx_SJ pre _ _ _ _ _ _ _ _ _ _ _ _ r) ?_
   refine must_is ?_ ?_
   ·simp only [List.length_cons, List.length_nil, Bool.and_eq_true, decide_eq_true_eq]
    exact ⟨rfl, by omega, rfl⟩
   obtain ⟨h1, h2, h3⟩ := plL_len th body (ar ++ [k]) (k + 1)
   obtain ⟨g1, g2, g3⟩ := plL_len th els (ar ++ [(plL th body (ar ++ [k]) (k + 1)).2]) ((plL th body (ar ++ [k]) (k + 1)).2 + 1)
   refine bind_eq (hb body (by omega) th (out ++ [encPl ⟨S.mk kind name other num ek en es eof body els re im, th, ar, k⟩]) ar k hk (by simp; omega) (by omega)) ?_
   refine bind_eq (hb els (by omega) th _ ar (plL th body (ar ++ [k]) (k + 1)).2 (by omega) (by simp; omega) (by omega)) ?_
   simp only
   rw [wrap_up (show pre.length <= 281474976710656 by omega)]
   have e : pre ++ S.mk kind name other num ek en es eof body els re im :: r = (pre ++ [S.mk kind name other num ek en es eof body els re im]) ++ r := by simp
   have el : ((pre.length + 1 : Nat) : Int) = (((pre ++ [S.mk kind name other num ek en es eof body els re im]).length : Nat) : Int) := by simp
   rw [e, el]
   refine (ih r _ _ _ (by omega) (by omega) (by omega) (by simp; omega) (by omega) (by simp; omega)).trans ?_
   simp only [plL, plS, List.append_assoc, List.map_append, List.map_cons, List.cons_append, List.nil_append]
theorem place_loop2 {b : B_jumps_place_v2} {K : Nat} (hb : ∀ l', cntL l' < K -> PV b.jumps_place_v3 l') (th : Nat) (ar : List Nat) : ∀ (m : Nat) (r pre : List S) (out : List T) (k : Nat), r.length < m -> cntL r <= K -> ar.length <= k -> out.length + cntL r <= 100000 -> k + 2 * cntL r <= 100001 -> pre.length + cntL r <= 100000 →
  l_jumps_place_v2_4 b n m (out, (th : Int), ar.map iN, encSLJ (pre ++ r), (((pre ++ r).length : Nat) : Int), (pre.length : Int), (k : Int)) = some (out ++ (plL th r ar k).1.map encPl, (((plL th r ar k).2 : Nat) : Int)) := by
 intro m
 induction m with
 | zero => intro r pre out k hm; omega
 | succ m ih =>
  intro r pre out k hm hK hk ho hk2 hp
  rw [l_jumps_place_v2_4]
  unfold l_jumps_place_v2_4_B
  simp only
  cases r with
  | nil =>
   refine cond_no (decide_eq_false (by simp)) ?_
   simp only [plL, List.map_nil, List.append_nil]
  | cons s r =>
   obtain ⟨kind, name, other, num, ek, en, es, eof, body, els, re, im⟩ := s
   simp only [cntL, S.cnt, List.length_cons] at hm hK ho hk2 hp
   refine cond_yes (decide_eq_true (by rw [List.length_append, List.length_cons]; omega)) ?_
   refine bind_eq (idx_SJ pre _ _ _ _ _ _ _ _ _ _ _ _ r) ?_
   refine must_is ?_ ?_
   ·simp only [List.length_cons, List.length_nil, Bool.and_eq_true, decide_eq_true_eq]
    exact ⟨rfl, by omega, rfl⟩
   obtain ⟨h1, h2, h3⟩ := plL_len th body (ar ++ [k]) (k + 1)
   obtain ⟨g1, g2, g3⟩ := plL_len th els (ar ++ [(plL th body (ar ++ [k]) (k + 1)).2]) ((plL th body (ar ++ [k]) (k + 1)).2 + 1)
   refine bind_eq (hb body (by omega) th (out ++ [encPl ⟨S.mk kind name other num ek en es eof body els re im, th, ar, k⟩]) ar k hk (by simp; omega) (by omega)) ?_
   refine bind_eq (hb els (by omega) th _ ar (plL th body (ar ++ [k]) (k + 1)).2 (by omega) (by simp; omega) (by omega)) ?_
   simp only
   rw [wrap_up (show pre.length <= 281474976710656 by omega)]
   have e : pre ++ S.mk kind name other num ek en es eof body els re im :: r = (pre ++ [S.mk kind name other num ek en es eof body els re im]) ++ r := by simp
   have el : ((pre.length + 1 : Nat) : Int) = (((pre ++ [S.mk kind name other num ek en es eof body els re im]).length : Nat) : Int) := by simp
   rw [e, el]
   refine (ih r _ _ _ (by omega) (by omega) (by omega) (by simp; omega) (by omega) (by simp; omega)).trans ?_
   simp only [plL, plS, List.append_assoc, List.map_append, List.map_cons, List.cons_append, List.nil_append]
theorem len_cntL : ∀ (l : List S), l.length <= cntL l
 | [] => by simp
 | s :: l => by
  have := len_cntL l
  have := cnt_pos s
  simp only [cntL, List.length_cons]; omega
theorem place3 (hn : 100000 < n) : ∀ (m : Nat) (l : List S), cntL l < m -> PV (unB_jumps_place_v2 n m).jumps_place_v3 l := by
 intro m
 induction m with
 | zero => intro l h; omega
 | succ m ih =>
  intro l hl th out ar k hk ho hk2
  show f_jumps_place_v3 (unB_jumps_place_v2 n m) n out (th : Int) (ar.map iN) (encSLJ l) (k : Int) = _
  unfold f_jumps_place_v3
  refine bind_eq (clone_eq n ar (by omega)) ?_
  refine must_is ?_ ?_
  ·simp only [List.length_map, List.length_cons, List.length_nil, Bool.and_eq_true, decide_eq_true_eq]
   exact ⟨rfl, by omega, rfl⟩
  have e : ar.map iN ++ [(T.sc (.int .i64 (k : Int)))] = (ar ++ [k]).map iN := by simp [iN]
  rw [e, wrap_up (show k <= 281474976710656 by omega), encSL_lenJ]
  have hlen := len_cntL l
  refine bind_eq (place_loop3 (n := n) (K := m) ih th (ar ++ [k]) n l [] out (k + 1) (by omega) (by omega) (by simp; omega) (by omega) (by omega) (by simp; omega)) ?_
  rfl
theorem place2 (hn : 100000 < n) (l : List S) (h : cntL l + 1 < n) : PV (m_jumps_place_v2 n) l := by
 intro th out ar k hk ho hk2
 unfold m_jumps_place_v2
 obtain ⟨m, rfl⟩ : ∃ m, n = m + 1 := ⟨n - 1, by omega⟩
 show f_jumps_place_v2 (unB_jumps_place_v2 (m + 1) m) (m + 1) out (th : Int) (ar.map iN) (encSLJ l) (k : Int) = _
 unfold f_jumps_place_v2
 refine bind_eq (clone_eq (m + 1) ar (by omega)) ?_
 refine must_is ?_ ?_
 ·simp only [List.length_map, List.length_cons, List.length_nil, Bool.and_eq_true, decide_eq_true_eq]
  exact ⟨rfl, by omega, rfl⟩
 have e : ar.map iN ++ [(T.sc (.int .i64 (k : Int)))] = (ar ++ [k]).map iN := by simp [iN]
 rw [e, wrap_up (show k <= 281474976710656 by omega), encSL_lenJ]
 have hlen := len_cntL l
 refine bind_eq (place_loop2 (n := m + 1) (K := m) (fun l' hl' => place3 hn m l' hl') th (ar ++ [k]) (m + 1) l [] out (k + 1) (by omega) (by omega) (by simp; omega) (by omega) (by omega) (by simp; omega)) ?_
 rfl
theorem plP_len : ∀ (P : List (List S)) (th k : Nat), (plP P th k).1.length = cntP P /\ k <= (plP P th k).2 /\ (plP P th k).2 <= k + P.length + 2 * cntP P
 | [], th, k => by simp [plP, cntP]
 | l :: r, th, k => by
  obtain ⟨h1, h2, h3⟩ := plL_len th l [k] (k + 1)
  obtain ⟨g1, g2, g3⟩ := plP_len r (th + 1) (plL th l [k] (k + 1)).2
  simp only [plP, cntP, List.length_append, List.length_cons]
  omega
theorem idx_P (pre : List (List S)) (l : List S) (r : List (List S)) : idx true [.list] (encP (pre ++ l :: r)) (pre.length : Int) = some (T.list (encSLJ l)) := by
 have h0 : decide ((0 : Int) <= (pre.length : Int)) = true := by simp
 have h1 : (encP (pre ++ l :: r))[pre.length]? = some (T.list (encSLJ l)) := by
  unfold encP
  rw [List.getElem?_map, List.getElem?_append_right (Nat.le_refl _), Nat.sub_self]
  rfl
 simp only [idx, cond_true, h0, Int.toNat_natCast, h1]
 rfl
theorem all_eq (hn : 100000 < n) (P : List (List S)) (hP : cntP P <= 6000) (hl : P.length <= 4) (d : List T) : m_jumps_all n d (encP P) = some ((plP P 0 0).1.map encPl) := by
 have loop : ∀ (m : Nat) (r pre : List (List S)) (out : List T) (k : Nat), r.length < m -> pre.length + r.length <= 4 -> out.length + cntP r <= 6000 -> k + 2 * cntP r + r.length <= 20000 -> ∀ s4 s5,
   l_jumps_all_4 n m (out, encP (pre ++ r), (((pre ++ r).length : Nat) : Int), (pre.length : Int), s4, s5, (k : Int)) = some (out ++ (plP r pre.length k).1.map encPl, s4, s5, (((plP r pre.length k).2 : Nat) : Int)) := by
  intro m
  induction m with
  | zero => intro r pre out k hm; omega
  | succ m ih =>
   intro r pre out k hm hp ho hk s4 s5
   rw [l_jumps_all_4]
   unfold l_jumps_all_4_B
   simp only
   cases r with
   | nil =>
    refine cond_no (decide_eq_false (by simp)) ?_
    simp only [plP, List.map_nil, List.append_nil]
   | cons l r =>
    simp only [cntP, List.length_cons] at hm hp ho hk
    refine cond_yes (decide_eq_true (by rw [List.length_append, List.length_cons]; omega)) ?_
    refine bind_eq (idx_P pre l r) ?_
    refine bind_eq (place2 hn l (by omega) pre.length out [] k (by simp) (by omega) (by omega)) ?_
    obtain ⟨h1, h2, h3⟩ := plL_len pre.length l [k] (k + 1)
    simp only [List.nil_append]
    rw [wrap_up (show pre.length <= 281474976710656 by omega)]
    have e : pre ++ l :: r = (pre ++ [l]) ++ r := by simp
    have el : ((pre.length + 1 : Nat) : Int) = (((pre ++ [l]).length : Nat) : Int) := by simp
    have el2 : (pre ++ [l]).length = pre.length + 1 := by simp
    rw [e, el]
    refine (ih r _ _ _ (by omega) (by omega) (by simp; omega) (by omega) s4 s5).trans ?_
    rw [el2]
    simp only [plP, List.append_assoc, List.map_append]
 unfold m_jumps_all
 have hlen : (encP P).length = P.length := by simp [encP]
 rw [hlen]
 exact bind_eq (loop n P [] [] 0 (by omega) (by simp; omega) (by simp; omega) (by omega) d (encP P)) rfl
mutual
def flS : S -> List S
 | .mk kind name other num ek en es eof body els re im => .mk kind name other num ek en es eof body els re im :: (flL body ++ flL els)
def flL : List S -> List S
 | [] => []
 | s :: r => flS s ++ flL r
end
mutual
theorem plS_s (th : Nat) : ∀ (s : S) (ar : List Nat) (k : Nat), (plS th s ar k).1.map (·.s) = flS s
 | .mk kind name other num ek en es eof body els re im, ar, k => by
  simp only [plS, flS, List.map_cons, List.map_append, plL_s th body, plL_s th els]
theorem plL_s (th : Nat) : ∀ (l : List S) (ar : List Nat) (k : Nat), (plL th l ar k).1.map (·.s) = flL l
 | [], ar, k => by simp [plL, flL]
 | s :: r, ar, k => by simp only [plL, flL, List.map_append, plS_s th s, plL_s th r]
end
theorem flL_len (l : List S) : (flL l).length = cntL l := by
 rw [<- plL_s 0 l [] 0, List.length_map, (plL_len 0 l [] 0).1]
def BV (g : List T -> Option (List T)) (l : List S) : Prop := cntL l <= 100000 -> g (encSLJ l) = some (encSLJ (flL l))
theorem sblock_c (hn : 100000 < n) : ∀ (m : Nat) (l : List S), cntL l < m -> BV (unB_sutureref1_block n m).sutureref1_block l := by
 intro m
 induction m with
 | zero => intro l h; omega
 | succ m ih0 =>
  intro l hl hc
  have loop : ∀ (k : Nat) (r pre : List S) (out : List S), r.length < k -> cntL r <= m -> out.length + cntL r <= 100000 -> pre.length + cntL r <= 100000 →
    l_sutureref1_block_3 (unB_sutureref1_block n m) n k (encSLJ (pre ++ r), encSLJ out, (pre.length : Int)) = some (encSLJ (out ++ flL r)) := by
   intro k
   induction k with
   | zero => intro r pre out hm; omega
   | succ k ih =>
    intro r pre out hm hK ho hp
    rw [l_sutureref1_block_3]
    unfold l_sutureref1_block_3_B
    simp only
    cases r with
    | nil =>
     refine cond_no (decide_eq_false (by rw [encSL_lenJ]; simp)) ?_
     simp only [flL, List.append_nil]
    | cons s r =>
     obtain ⟨kind, name, other, num, ek, en, es, eof, body, els, re, im⟩ := s
     simp only [cntL, S.cnt, List.length_cons] at hm hK ho hp
     have hb := flL_len body
     have he := flL_len els
     refine cond_yes (decide_eq_true (by rw [encSL_lenJ, List.length_append, List.length_cons]; omega)) ?_
     refine bind_eq (idx_SJ pre _ _ _ _ _ _ _ _ _ _ _ _ r) ?_
     refine must_is ?_ ?_
     ·simp only [List.length_cons, List.length_nil, Bool.and_eq_true, decide_eq_true_eq, encSL_lenJ]
      exact ⟨rfl, by omega, rfl⟩
     refine bind_eq (idx_SJ pre _ _ _ _ _ _ _ _ _ _ _ _ r) ?_
     refine bind_eq (ih0 body (by omega) (by omega)) ?_
     have e1 : encSLJ out ++ [S.enc (S.mk kind name other num ek en es eof body els re im)] = encSLJ (out ++ [S.mk kind name other num ek en es eof body els re im]) := by
      rw [encSL_appendJ, encSL_oneJ]
     have e2 : ∀ (x : T), x = S.enc (S.mk kind name other num ek en es eof body els re im) -> encSLJ out ++ [x] = encSLJ (out ++ [S.mk kind name other num ek en es eof body els re im]) := by
      rintro x rfl; exact e1
     rw [e2 _ (by simp only [S.enc]; rfl)]
     refine must_is ?_ ?_
     ·simp only [sized_SJ, encSL_lenJ, List.length_append, List.length_cons, List.length_nil, Bool.and_true, Bool.and_eq_true, decide_eq_true_eq]
      exact ⟨rfl, by omega⟩
     refine bind_eq (idx_SJ pre _ _ _ _ _ _ _ _ _ _ _ _ r) ?_
     refine bind_eq (ih0 els (by omega) (by omega)) ?_
     rw [<- encSL_appendJ]
     refine must_is ?_ ?_
     ·simp only [sized_SJ, encSL_lenJ, List.length_append, List.length_cons, List.length_nil, Bool.and_true, Bool.and_eq_true, decide_eq_true_eq]
      exact ⟨rfl, by omega⟩
     rw [<- encSL_appendJ, wrap_up (show pre.length <= 281474976710656 by omega)]
     have e : pre ++ S.mk kind name other num ek en es eof body els re im :: r = (pre ++ [S.mk kind name other num ek en es eof body els re im]) ++ r := by simp
     have el : ((pre.length + 1 : Nat) : Int) = (((pre ++ [S.mk kind name other num ek en es eof body els re im]).length : Nat) : Int) := by simp
     rw [e, el]
     refine (ih r _ _ (by omega) (by omega) (by simp; omega) (by simp; omega)).trans ?_
     simp only [flL, flS, List.append_assoc, List.cons_append, List.nil_append]
  show f_sutureref1_block (unB_sutureref1_block n m) n (encSLJ l) = _
  unfold f_sutureref1_block
  have hlen := len_cntL l
  have e0 : ([] : List T) = encSLJ [] := by simp only [encSLJ]
  rw [e0]
  exact bind_eq (loop n l [] [] (by omega) (by omega) (by simp; omega) (by simp; omega)) rfl
def flP : List (List S) -> List S
 | [] => []
 | l :: r => flL l ++ flP r
theorem plP_s : ∀ (P : List (List S)) (th k : Nat), (plP P th k).1.map (·.s) = flP P
 | [], th, k => by simp [plP, flP]
 | l :: r, th, k => by simp only [plP, flP, List.map_append, plL_s, plP_s r]
theorem list_eq (hn : 100000 < n) (P : List (List S)) (hP : cntP P <= 6000) (hl : P.length <= 4) (d : List T) : m_sutureref1_List n d (encP P) = some (encSLJ (flP P)) := by
 have loop : ∀ (m : Nat) (r pre : List (List S)) (out : List S), r.length < m -> pre.length + r.length <= 4 -> out.length + cntP r <= 6000 -> ∀ s2,
   l_sutureref1_List_3 n m (encSLJ out, (pre.length : Int), s2, encP (pre ++ r)) = some (encSLJ (out ++ flP r), s2, encP (pre ++ r)) := by
  intro m
  induction m with
  | zero => intro r pre out hm; omega
  | succ m ih =>
   intro r pre out hm hp ho s2
   rw [l_sutureref1_List_3]
   unfold l_sutureref1_List_3_B
   simp only
   have hlen : (encP (pre ++ r)).length = pre.length + r.length := by simp [encP]
   cases r with
   | nil =>
    refine cond_no (decide_eq_false (by rw [hlen]; simp)) ?_
    simp only [flP, List.append_nil]
   | cons l r =>
    simp only [cntP, List.length_cons] at hm hp ho
    have hb := flL_len l
    refine cond_yes (decide_eq_true (by rw [hlen, List.length_cons]; omega)) ?_
    refine bind_eq (idx_P pre l r) ?_
    refine bind_eq (sblock_c hn n l (by omega) (by omega)) ?_
    refine must_is ?_ ?_
    ·simp only [sized_SJ, encSL_lenJ, Bool.and_true, Bool.and_eq_true, decide_eq_true_eq]
     exact ⟨rfl, by omega⟩
    rw [<- encSL_appendJ, wrap_up (show pre.length <= 281474976710656 by omega)]
    have e : pre ++ l :: r = (pre ++ [l]) ++ r := by simp
    have el : ((pre.length + 1 : Nat) : Int) = (((pre ++ [l]).length : Nat) : Int) := by simp
    rw [e, el]
    refine (ih r _ _ (by omega) (by simp; omega) (by simp; omega) s2).trans ?_
    simp only [flP, List.append_assoc]
 unfold m_sutureref1_List
 have e0 : ([] : List T) = encSLJ [] := by simp only [encSLJ]
 rw [e0]
 exact bind_eq (loop n P [] [] (by omega) (by simp; omega) (by simp; omega) d) rfl
def thP : List (List S) -> Nat -> List Nat
 | [], _ => []
 | l :: r, th => List.replicate (cntL l) th ++ thP r (th + 1)
end
end Go.Proofs.Ytgpokdaacbjimab.W
namespace Go.Proofs.Ytgpokdaacbjimab.W
open Go Go.Eng
set_option linter.unusedVariables false
set_option linter.unusedSimpArgs false
set_option linter.unusedSectionVars false
def S.inn : S -> Nat
 | .mk _ _ _ _ _ _ _ _ body els _ _ => cntL body + cntL els
def S.kind : S -> Int
 | .mk k _ _ _ _ _ _ _ _ _ _ _ => k
def S.name : S -> ByteArray
 | .mk _ nm _ _ _ _ _ _ _ _ _ _ => nm
def Nest : List Pl -> Prop
 | [] => True
 | x :: r => x.s.inn <= r.length /\ (∀ y ∈ r.take x.s.inn, ∃ b, y.ar.getLast? = some b /\ x.c <= b) /\ Nest r
theorem Nest_append : ∀ (a b : List Pl), Nest a -> Nest b -> Nest (a ++ b)
 | [], b, _, h => h
 | x :: a, b, h, hb => by
  obtain ⟨h1, h2, h3⟩ := h
  rw [List.cons_append]
  refine ⟨by rw [List.length_append]; omega, ?_, Nest_append a b h3 hb⟩
  rw [List.take_append_of_le_length h1]
  exact h2
structure Row (X : List Pl) (k k2 : Nat) : Prop where
 nest : Nest X
 low : ∀ x ∈ X, k <= x.c
 high : ∀ x ∈ X, x.c <= k2
 old : ∀ x ∈ X, ∀ b ∈ x.ar, b < x.c
 some_ : ∀ x ∈ X, x.ar ≠ []
 rise : X.Pairwise (fun x y => x.c <= y.c)
theorem Row.append {a b : List Pl} {k k2 k3 : Nat} (ha : Row a k k2) (hb : Row b k2 k3) (h1 : k <= k2) (h2 : k2 <= k3) : Row (a ++ b) k k3 := by
 refine ⟨Nest_append a b ha.nest hb.nest, ?_, ?_, ?_, ?_, ?_⟩
 ·intro x hx
  rcases List.mem_append.1 hx with h | h
  ·exact ha.low x h
  ·have := hb.low x h; omega
 ·intro x hx
  rcases List.mem_append.1 hx with h | h
  ·have := ha.high x h; omega
  ·exact hb.high x h
 ·intro x hx
  rcases List.mem_append.1 hx with h | h
  ·exact ha.old x h
  ·exact hb.old x h
 ·intro x hx
  rcases List.mem_append.1 hx with h | h
  ·exact ha.some_ x h
  ·exact hb.some_ x h
 ·refine List.pairwise_append.2 ⟨ha.rise, hb.rise, fun x hx y hy => ?_⟩
  have := ha.high x hx
  have := hb.low y hy
  omega
theorem Row.lower {a : List Pl} {k j k2 : Nat} (ha : Row a k k2) (h : j <= k) : Row a j k2 := ⟨ha.nest, fun x hx => by have := ha.low x hx; omega, ha.high, ha.old, ha.some_, ha.rise⟩
def In (X : List Pl) (ar : List Nat) (k : Nat) : Prop := ∀ x ∈ X, x.ar = ar \/ ∃ b, x.ar.getLast? = some b /\ k <= b
theorem getLast_one (ar : List Nat) (k : Nat) : (ar ++ [k]).getLast? = some k := by simp
mutual
theorem plS_row (th : Nat) : ∀ (s : S) (ar : List Nat) (k : Nat), (∀ b ∈ ar, b < k) -> ar ≠ [] -> Row (plS th s ar k).1 k (plS th s ar k).2 /\ In (plS th s ar k).1 ar k
 | .mk kind name other num ek en es eof body els re im, ar, k, hb, hne => by
  obtain ⟨l1, l2, l3⟩ := plL_len th body (ar ++ [k]) (k + 1)
  obtain ⟨m1, m2, m3⟩ := plL_len th els (ar ++ [(plL th body (ar ++ [k]) (k + 1)).2]) ((plL th body (ar ++ [k]) (k + 1)).2 + 1)
  obtain ⟨h1, h2⟩ := plL_row th body (ar ++ [k]) (k + 1) (by
   intro b hx
   rcases List.mem_append.1 hx with h | h
   ·have := hb b h; omega
   ·have := List.mem_singleton.1 h; omega) (by simp)
  obtain ⟨g1, g2⟩ := plL_row th els (ar ++ [(plL th body (ar ++ [k]) (k + 1)).2]) ((plL th body (ar ++ [k]) (k + 1)).2 + 1) (by
   intro b hx
   rcases List.mem_append.1 hx with h | h
   ·have := hb b h; omega
   ·have := List.mem_singleton.1 h; omega) (by simp)
  simp only [plS]
  generalize (plL th body (ar ++ [k]) (k + 1)).1 = a at *
  generalize (plL th body (ar ++ [k]) (k + 1)).2 = ka at *
  generalize (plL th els (ar ++ [ka]) (ka + 1)).1 = e at *
  generalize (plL th els (ar ++ [ka]) (ka + 1)).2 = ke at *
  have hrow := h1.append (g1.lower (show ka <= ka + 1 by omega)) (by omega) (by omega)
  have hin : ∀ y ∈ a ++ e, ∃ b, y.ar.getLast? = some b /\ k <= b := by
   intro y hy
   rcases List.mem_append.1 hy with h | h
   ·rcases h2 y h with h | ⟨b, h, hb⟩
    ·exact ⟨k, by rw [h, getLast_one], by omega⟩
    ·exact ⟨b, h, by omega⟩
   ·rcases g2 y h with h | ⟨b, h, hb⟩
    ·exact ⟨ka, by rw [h, getLast_one], by omega⟩
    ·exact ⟨b, h, by omega⟩
  refine ⟨⟨⟨?_, ?_, hrow.nest⟩, ?_, ?_, ?_, ?_, ?_⟩, ?_⟩
  ·simp only [S.inn, List.length_append]; omega
  ·intro y hy
   exact hin y (List.mem_of_mem_take hy)
  ·intro x hx
   rcases List.mem_cons.1 hx with rfl | h
   ·exact Nat.le_refl _
   ·have := hrow.low x h; omega
  ·intro x hx
   rcases List.mem_cons.1 hx with rfl | h
   ·simp only; omega
   ·exact hrow.high x h
  ·intro x hx
   rcases List.mem_cons.1 hx with rfl | h
   ·exact hb
   ·exact hrow.old x h
  ·intro x hx
   rcases List.mem_cons.1 hx with rfl | h
   ·exact hne
   ·exact hrow.some_ x h
  ·refine List.pairwise_cons.2 ⟨fun y hy => ?_, hrow.rise⟩
   have := hrow.low y hy
   simp only; omega
  ·intro x hx
   rcases List.mem_cons.1 hx with rfl | h
   ·exact .inl rfl
   ·exact .inr (hin x h)
theorem plL_row (th : Nat) : ∀ (l : List S) (ar : List Nat) (k : Nat), (∀ b ∈ ar, b < k) -> ar ≠ [] -> Row (plL th l ar k).1 k (plL th l ar k).2 /\ In (plL th l ar k).1 ar k
 | [], ar, k, hb, hne => by
  simp only [plL]
  refine ⟨⟨trivial, ?_, ?_, ?_, ?_, List.Pairwise.nil⟩, ?_⟩ <;> intro x hx <;> simp at hx
 | s :: r, ar, k, hb, hne => by
  obtain ⟨l1, l2, l3⟩ := plS_len th s ar k
  obtain ⟨h1, h2⟩ := plS_row th s ar k hb hne
  obtain ⟨m1, m2, m3⟩ := plL_len th r ar (plS th s ar k).2
  obtain ⟨g1, g2⟩ := plL_row th r ar (plS th s ar k).2 (fun b hx => by have := hb b hx; omega) hne
  simp only [plL]
  refine ⟨h1.append g1 l2 m2, fun x hx => ?_⟩
  rcases List.mem_append.1 hx with h | h
  ·exact h2 x h
  ·rcases g2 x h with h | ⟨b, h, hb⟩
   ·exact .inl h
   ·exact .inr ⟨b, h, by omega⟩
end
theorem plP_row : ∀ (P : List (List S)) (th k : Nat), Row (plP P th k).1 k (plP P th k).2
 | [], th, k => by
  simp only [plP]
  refine ⟨trivial, ?_, ?_, ?_, ?_, List.Pairwise.nil⟩ <;> intro x hx <;> simp at hx
 | l :: r, th, k => by
  obtain ⟨l1, l2, l3⟩ := plL_len th l [k] (k + 1)
  obtain ⟨m1, m2, m3⟩ := plP_len r (th + 1) (plL th l [k] (k + 1)).2
  have h1 := (plL_row th l [k] (k + 1) (by intro b hb; have := List.mem_singleton.1 hb; omega) (by simp)).1
  have h2 := plP_row r (th + 1) (plL th l [k] (k + 1)).2
  simp only [plP]
  exact (h1.lower (by omega)).append h2 (by omega) m2
theorem Nest_drop : ∀ (X : List Pl) (k : Nat), Nest X -> Nest (X.drop k)
 | X, 0, h => h
 | [], k + 1, h => h
 | x :: r, k + 1, h => by simpa using Nest_drop r k h.2.2
theorem no_block {X : List Pl} {k0 k2 : Nat} (h : Row X k0 k2) {i k t : Nat} {a x y : Pl} (hi : X[i]? = some a) (hk : X[k]? = some x) (ht : X[t]? = some y) (hik : i <= k) (hkt : k < t) (htk : t <= k + x.s.inn) {b : Nat} (hb : y.ar.getLast? = some b) (hba : b ∈ a.ar) : False := by
 obtain ⟨hkl, hkx⟩ := List.getElem?_eq_some_iff.1 hk
 obtain ⟨hil, hia⟩ := List.getElem?_eq_some_iff.1 hi
 have hd := Nest_drop X k h.nest
 rw [List.drop_eq_getElem_cons hkl, hkx] at hd
 obtain ⟨_, h2, _⟩ := hd
 have hy : y ∈ (X.drop (k + 1)).take x.s.inn := by
  refine List.mem_of_getElem? (i := t - (k + 1)) ?_
  rw [List.getElem?_take_of_lt (by omega), List.getElem?_drop, show k + 1 + (t - (k + 1)) = t by omega]
  exact ht
 obtain ⟨b', e1, e2⟩ := h2 y hy
 rw [hb] at e1
 simp only [Option.some.injEq] at e1
 subst e1
 have h3 := h.old a (List.mem_of_getElem? hi) b hba
 have h4 : a.c <= x.c := by
  by_cases he : i = k
  ·subst he
   rw [hi] at hk
   simp only [Option.some.injEq] at hk
   subst hk
   exact Nat.le_refl _
  ·have := List.pairwise_iff_getElem.1 h.rise i k hil hkl (by omega)
   rw [hia, hkx] at this
   exact this
 omega
theorem plP_th : ∀ (P : List (List S)) (th k : Nat), (plP P th k).1.map (·.th) = thP P th := by
 have hS : ∀ (th : Nat) (l : List S) (ar : List Nat) (k : Nat), (plL th l ar k).1.map (·.th) = List.replicate (cntL l) th := by
  intro th l ar k
  rw [List.eq_replicate_iff]
  refine ⟨by rw [List.length_map, (plL_len th l ar k).1], ?_⟩
  intro b hb
  obtain ⟨x, hx, rfl⟩ := List.mem_map.1 hb
  exact allTh th l ar k x hx
 intro P
 induction P with
 | nil => intro th k; simp [plP, thP]
 | cons l r ih => intro th k; simp only [plP, thP, List.map_append, hS, ih]
where
 allTh (th : Nat) : ∀ (l : List S) (ar : List Nat) (k : Nat), ∀ x ∈ (plL th l ar k).1, x.th = th := by
  intro l
  exact (thL th l)
 thL (th : Nat) : ∀ (l : List S) (ar : List Nat) (k : Nat), ∀ x ∈ (plL th l ar k).1, x.th = th
  | [], ar, k, x, hx => by simp [plL] at hx
  | .mk kind name other num ek en es eof body els re im :: r, ar, k, x, hx => by
   simp only [plL, plS, List.mem_append, List.mem_cons] at hx
   rcases hx with (rfl | hx | hx) | hx
   ·rfl
   ·exact thL th body _ _ x hx
   ·exact thL th els _ _ x hx
   ·exact thL th r _ _ x hx
end Go.Proofs.Ytgpokdaacbjimab.W
namespace Go.Proofs.Ytgpokdaacbjimab.W
open Go Go.Eng
set_option maxRecDepth 100000
theorem known_ok (w : Nat) : m_suturelaw9_known (w + 200) = some true := by kernel_rfl
end Go.Proofs.Ytgpokdaacbjimab.W
namespace Go.Proofs.Ytgpokdaacbjimab.W
open Go Go.Eng
set_option linter.unusedVariables false
set_option linter.unusedSimpArgs false
set_option linter.unusedSectionVars false
theorem getPl (x : Pl) : ((encPl x).cell 0).int = x.s.kind /\ ((encPl x).cell 1).str = x.s.name /\ ((encPl x).cell 11).int = (x.th : Int) /\ ((encPl x).cell 12).lst = x.ar.map iN := by
 obtain ⟨⟨kind, name, other, num, ek, en, es, eof, body, els, re, im⟩, th, ar, c⟩ := x
 exact ⟨rfl, rfl, rfl, rfl⟩
theorem idx_Pl {X : List Pl} {i : Nat} (h : i < X.length) : idx true [.int .i64, .str, .str, .int .i64, .int .i64, .int .i64, .str, .list, .list, .list, .cplx .f64, .int .i64, .list] (X.map encPl) (i : Int) = some (encPl X[i]) := by
 have h0 : decide ((0 : Int) <= (i : Int)) = true := by simp
 simp only [idx, cond_true, h0, Int.toNat_natCast, List.getElem?_map, List.getElem?_eq_getElem h, Option.map_some]
 obtain ⟨⟨kind, name, other, num, ek, en, es, eof, body, els, re, im⟩, th, ar, c⟩ := X[i]
 rfl
theorem idx_no {sh : List _} {l : List T} {i : Int} : Comes (idx false sh l i) fun _ => True := ⟨_, rfl, trivial⟩
theorem idx_N {l : List Nat} {i : Nat} (h : i < l.length) : idx true [.int .i64] (l.map iN) (i : Int) = some (iN l[i]) := by
 have h0 : decide ((0 : Int) <= (i : Int)) = true := by simp
 simp only [idx, cond_true, h0, Int.toNat_natCast, List.getElem?_map, List.getElem?_eq_getElem h, Option.map_some]
 rfl
theorem sized_Pl (X : List Pl) : sized 13 (X.map encPl) = true := by
 unfold sized
 rw [List.all_eq_true]
 intro y hy
 obtain ⟨⟨⟨kind, name, other, num, ek, en, es, eof, body, els, re, im⟩, th, ar, c⟩, _, rfl⟩ := List.mem_map.1 hy
 rfl
theorem contains_c {n : Nat} (l : List Nat) (hl : l.length <= 100000) (hn : 100000 < n) (b : Nat) : Comes (m_slices_Contains___int_int_ n (l.map iN) (b : Int)) fun r => r = true -> b ∈ l := by
 have loop : ∀ (m i : Nat), i <= l.length -> l.length - i < m -> Comes (l_slices_Index___int_int__2 n m (l.map iN, (b : Int), ((l.length : Nat) : Int), (i : Int))) fun r => match r with
   | .inl v => 0 <= v -> b ∈ l
   | .inr _ => True := by
  intro m
  induction m with
  | zero => intro i h1 h2; omega
  | succ m ih =>
   intro i h1 h2
   rw [l_slices_Index___int_int__2]
   unfold l_slices_Index___int_int__2_B
   simp only
   refine comes_cond (fun hc => ?_) (fun _ => comes_some trivial)
   have hc := of_decide_eq_true hc
   have hlt : i < l.length := by omega
   rw [idx_N hlt]
   simp only [Option.bind_some]
   refine comes_cond (fun he => ?_) (fun _ => ?_)
   ·have he := beq_iff_eq.1 he
    have e : ((iN l[i]).cell 0).int = (l[i] : Int) := rfl
    rw [e] at he
    refine comes_some (fun _ => ?_)
    have : b = l[i] := by omega
    rw [this]
    exact List.getElem_mem hlt
   ·rw [wrap_up (show i <= 281474976710656 by omega)]
    exact ih (i + 1) (by omega) (by omega)
 unfold m_slices_Contains___int_int_ m_slices_Index___int_int_
 rw [List.length_map]
 refine comes_bind (P := fun r => 0 <= r -> b ∈ l) ?_ fun r hr => comes_some fun h => hr (of_decide_eq_true h)
 refine comes_bind (loop n 0 (by omega) (by omega)) fun x hx => ?_
 cases x with
 | inl v => exact comes_some hx
 | inr v => exact comes_some (fun h => by simp at h)
def TQ (X : List Pl) (i : Nat) (r : Int) : Prop := r = -1 \/ ∃ (t : Nat) (a y : Pl) (b : Nat), r = (t : Int) /\ i < t /\ X[i]? = some a /\ X[t]? = some y /\ a.s.kind = 9 /\ y.s.kind = 10 /\ (ByteArray.toList y.s.name == ByteArray.toList a.s.name) = true /\ y.th = a.th /\ y.ar.getLast? = some b /\ b ∈ a.ar
theorem arL (th : Nat) : ∀ (l : List S) (ar : List Nat) (k : Nat), ar.length <= k -> ∀ x ∈ (plL th l ar k).1, x.ar.length <= x.c
 | [], ar, k, h, x, hx => by simp [plL] at hx
 | .mk kind name other num ek en es eof body els re im :: r, ar, k, h, x, hx => by
  obtain ⟨l1, l2, l3⟩ := plL_len th body (ar ++ [k]) (k + 1)
  obtain ⟨m1, m2, m3⟩ := plL_len th els (ar ++ [(plL th body (ar ++ [k]) (k + 1)).2]) ((plL th body (ar ++ [k]) (k + 1)).2 + 1)
  simp only [plL, plS, List.mem_append, List.mem_cons] at hx
  rcases hx with (rfl | hx | hx) | hx
  ·exact h
  ·exact arL th body _ _ (by simp; omega) x hx
  ·exact arL th els _ _ (by simp; omega) x hx
  ·exact arL th r _ _ (by omega) x hx
theorem arP : ∀ (P : List (List S)) (th k : Nat), ∀ x ∈ (plP P th k).1, x.ar.length <= x.c
 | [], th, k, x, hx => by simp [plP] at hx
 | l :: r, th, k, x, hx => by
  simp only [plP, List.mem_append] at hx
  rcases hx with hx | hx
  ·exact arL th l _ _ (by simp) x hx
  ·exact arP r _ _ x hx
end Go.Proofs.Ytgpokdaacbjimab.W
namespace Go.Proofs.Ytgpokdaacbjimab.W
open Go Go.Eng
set_option linter.unusedVariables false
set_option linter.unusedSimpArgs false
set_option linter.unusedSectionVars false
def i8 (b : Nat) : T := .sc (.int .i64 ((b + 1 : Nat) : Int))
def encM8 (x : Pl) : T := match x.s with
 | .mk kind name other num ek en es eof body els re im => T.agg [(T.sc (.int .i64 kind)), (T.sc (.string name)), (T.sc (.string other)), (T.sc (.int .i64 num)), (T.sc (.int .i64 ek)), (T.sc (.int .i64 en)), (T.sc (.string es)), (T.list eof), (T.list (encSLJ body)), (T.list (encSLJ els)), (T.sc (.complex .f64 re im)), T.list (x.ar.map i8), (T.sc (.int .i64 (x.th : Int)))]
theorem sized_i8 (l : List Nat) : sized 1 (l.map i8) = true := by
 unfold sized
 rw [List.all_eq_true]
 intro y hy
 obtain ⟨t, _, rfl⟩ := List.mem_map.1 hy
 rfl
theorem sized_M8 (X : List Pl) : sized 13 (X.map encM8) = true := by
 unfold sized
 rw [List.all_eq_true]
 intro y hy
 obtain ⟨⟨⟨kind, name, other, num, ek, en, es, eof, body, els, re, im⟩, th, ar, c⟩, _, rfl⟩ := List.mem_map.1 hy
 rfl
def MV (g : List T -> List T -> Int -> Int -> Option ((List T) × Int)) (l : List S) : Prop :=
 ∀ (th : Nat) (ar : List Nat) (k : Nat), ar.length <= k -> cntL l <= 100000 -> k + 2 * cntL l <= 100000 -> g (encSLJ l) (ar.map i8) (th : Int) (k : Int) = some ((plL th l (ar ++ [k]) (k + 1)).1.map encM8, (((plL th l (ar ++ [k]) (k + 1)).2 : Nat) : Int))
section
variable {n : Nat}
theorem mark_loop {b : B_sutureref8_marks} {K : Nat} (hb : ∀ l', cntL l' < K -> MV b.sutureref8_marks l') (th : Nat) (ar : List Nat) : ∀ (m : Nat) (r pre : List S) (out : List T) (k : Nat), r.length < m -> cntL r <= K -> ar.length <= k -> out.length + cntL r <= 100000 -> k + 2 * cntL r <= 100001 -> pre.length + cntL r <= 100000 →
  l_sutureref8_marks_5 b n m (encSLJ (pre ++ r), (th : Int), ar.map i8, out, (pre.length : Int), (k : Int)) = some (out ++ (plL th r ar k).1.map encM8, (((plL th r ar k).2 : Nat) : Int)) := by
 intro m
 induction m with
 | zero => intro r pre out k hm; omega
 | succ m ih =>
  intro r pre out k hm hK hk ho hk2 hp
  rw [l_sutureref8_marks_5]
  unfold l_sutureref8_marks_5_B
  simp only
  cases r with
  | nil =>
   refine cond_no (decide_eq_false (by rw [encSL_lenJ]; simp)) ?_
   simp only [plL, List.map_nil, List.append_nil]
  | cons s r =>
   obtain ⟨kind, name, other, num, ek, en, es, eof, body, els, re, im⟩ := s
   simp only [cntL, S.cnt, List.length_cons] at hm hK ho hk2 hp
   obtain ⟨h1, h2, h3⟩ := plL_len th body (ar ++ [k]) (k + 1)
   obtain ⟨g1, g2, g3⟩ := plL_len th els (ar ++ [(plL th body (ar ++ [k]) (k + 1)).2]) ((plL th body (ar ++ [k]) (k + 1)).2 + 1)
   refine cond_yes (decide_eq_true (by rw [encSL_lenJ, List.length_append, List.length_cons]; omega)) ?_
   refine bind_eq (idx_SJ pre _ _ _ _ _ _ _ _ _ _ _ _ r) ?_
   refine must_is ?_ ?_
   ·simp only [List.length_cons, List.length_nil, Bool.and_eq_true, decide_eq_true_eq]
    exact ⟨rfl, by omega, rfl⟩
   refine bind_eq (idx_SJ pre _ _ _ _ _ _ _ _ _ _ _ _ r) ?_
   refine bind_eq (hb body (by omega) th ar k hk (by omega) (by omega)) ?_
   refine must_is ?_ ?_
   ·simp only [List.length_append, List.length_cons, List.length_nil, List.length_map, Bool.and_eq_true, decide_eq_true_eq]
    exact ⟨rfl, by omega, sized_M8 _⟩
   refine bind_eq (idx_SJ pre _ _ _ _ _ _ _ _ _ _ _ _ r) ?_
   refine bind_eq (hb els (by omega) th ar (plL th body (ar ++ [k]) (k + 1)).2 (by omega) (by omega) (by omega)) ?_
   refine must_is ?_ ?_
   ·simp only [List.length_append, List.length_cons, List.length_nil, List.length_map, Bool.and_eq_true, decide_eq_true_eq]
    exact ⟨rfl, by omega, sized_M8 _⟩
   simp only
   rw [wrap_up (show pre.length <= 281474976710656 by omega)]
   have e : pre ++ S.mk kind name other num ek en es eof body els re im :: r = (pre ++ [S.mk kind name other num ek en es eof body els re im]) ++ r := by simp
   have el : ((pre.length + 1 : Nat) : Int) = (((pre ++ [S.mk kind name other num ek en es eof body els re im]).length : Nat) : Int) := by simp
   rw [e, el]
   refine (ih r _ _ _ (by omega) (by omega) (by omega) (by simp; omega) (by omega) (by simp; omega)).trans ?_
   simp only [plL, plS, List.append_assoc, List.map_append, List.map_cons, List.cons_append, List.nil_append]
   rfl
theorem mark_eq8 (hn : 100000 < n) : ∀ (m : Nat) (l : List S), cntL l < m -> MV (unB_sutureref8_marks n m).sutureref8_marks l := by
 intro m
 induction m with
 | zero => intro l h; omega
 | succ m ih =>
  intro l hl th ar k hk ho hk2
  show f_sutureref8_marks (unB_sutureref8_marks n m) n (encSLJ l) (ar.map i8) (th : Int) (k : Int) = _
  unfold f_sutureref8_marks
  refine must_is ?_ ?_
  ·simp only [List.length_map, List.length_nil, Bool.and_eq_true, decide_eq_true_eq]
   exact ⟨rfl, by omega, sized_i8 _⟩
  refine must_is ?_ ?_
  ·simp only [List.length_append, List.length_map, List.length_cons, List.length_nil, Bool.and_eq_true, decide_eq_true_eq]
   exact ⟨rfl, by omega, rfl⟩
  rw [wrap_up (show k <= 281474976710656 by omega)]
  have e : ([] ++ ar.map i8) ++ [(T.sc (.int .i64 ((k + 1 : Nat) : Int)))] = (ar ++ [k]).map i8 := by simp [i8]
  rw [e]
  have hlen := len_cntL l
  refine bind_eq (mark_loop (n := n) (K := m) ih th (ar ++ [k]) n l [] [] (k + 1) (by omega) (by omega) (by simp; omega) (by simp; omega) (by omega) (by simp; omega)) ?_
  rfl
theorem all8 (hn : 100000 < n) (P : List (List S)) (hP : cntP P <= 6000) (hl : P.length <= 4) (d : List T) : m_sutureref8_all n d (encP P) = some ((plP P 0 0).1.map encM8) := by
 have loop : ∀ (m : Nat) (r pre : List (List S)) (out : List T) (k : Nat), r.length < m -> pre.length + r.length <= 4 -> out.length + cntP r <= 6000 -> k + 2 * cntP r + r.length <= 20000 -> ∀ s2,
   l_sutureref8_all_4 n m (out, (pre.length : Int), s2, encP (pre ++ r), (k : Int)) = some (out ++ (plP r pre.length k).1.map encM8, s2, encP (pre ++ r), (((plP r pre.length k).2 : Nat) : Int)) := by
  intro m
  induction m with
  | zero => intro r pre out k hm; omega
  | succ m ih =>
   intro r pre out k hm hp ho hk s2
   rw [l_sutureref8_all_4]
   unfold l_sutureref8_all_4_B
   simp only
   have hlP : (encP (pre ++ r)).length = pre.length + r.length := by simp [encP]
   cases r with
   | nil =>
    refine cond_no (decide_eq_false (by rw [hlP]; simp)) ?_
    simp only [plP, List.map_nil, List.append_nil]
   | cons l r =>
    simp only [cntP, List.length_cons] at hm hp ho hk
    obtain ⟨h1, h2, h3⟩ := plL_len pre.length l [k] (k + 1)
    refine cond_yes (decide_eq_true (by rw [hlP, List.length_cons]; omega)) ?_
    refine bind_eq (idx_P pre l r) ?_
    refine bind_eq (mark_eq8 hn n l (by omega) pre.length [] k (by simp) (by omega) (by omega)) ?_
    refine must_is ?_ ?_
    ·simp only [List.nil_append, List.length_map, Bool.and_eq_true, decide_eq_true_eq]
     exact ⟨rfl, by omega, sized_M8 _⟩
    simp only [List.nil_append]
    rw [wrap_up (show pre.length <= 281474976710656 by omega)]
    have e : pre ++ l :: r = (pre ++ [l]) ++ r := by simp
    have el : ((pre.length + 1 : Nat) : Int) = (((pre ++ [l]).length : Nat) : Int) := by simp
    have el2 : (pre ++ [l]).length = pre.length + 1 := by simp
    rw [e, el]
    refine (ih r _ _ _ (by omega) (by omega) (by simp; omega) (by omega) s2).trans ?_
    rw [el2]
    simp only [plP, List.append_assoc, List.map_append]
 unfold m_sutureref8_all
 exact bind_eq (loop n P [] [] 0 (by omega) (by simp; omega) (by simp; omega) (by omega) d) rfl
theorem getM8 (x : Pl) : ((encM8 x).cell 0).int = x.s.kind /\ ((encM8 x).cell 1).str = x.s.name /\ ((encM8 x).cell 12).int = (x.th : Int) /\ ((encM8 x).cell 11).lst = x.ar.map i8 := by
 obtain ⟨⟨kind, name, other, num, ek, en, es, eof, body, els, re, im⟩, th, ar, c⟩ := x
 exact ⟨rfl, rfl, rfl, rfl⟩
def S.at_ : S -> Nat × Nat
 | .mk _ _ _ _ _ _ _ _ _ _ re im => (re, im)
theorem atM8 (x : Pl) : (((encM8 x).cell 10).re, ((encM8 x).cell 10).im) = x.s.at_ := by
 obtain ⟨⟨kind, name, other, num, ek, en, es, eof, body, els, re, im⟩, th, ar, c⟩ := x
 rfl
theorem atPl (x : Pl) : (((encPl x).cell 10).re, ((encPl x).cell 10).im) = x.s.at_ := by
 obtain ⟨⟨kind, name, other, num, ek, en, es, eof, body, els, re, im⟩, th, ar, c⟩ := x
 rfl
theorem idx_M8 {X : List Pl} {i : Nat} (h : i < X.length) : idx true [.int .i64, .str, .str, .int .i64, .int .i64, .int .i64, .str, .list, .list, .list, .cplx .f64, .list, .int .i64] (X.map encM8) (i : Int) = some (encM8 X[i]) := by
 have h0 : decide ((0 : Int) <= (i : Int)) = true := by simp
 simp only [idx, cond_true, h0, Int.toNat_natCast, List.getElem?_map, List.getElem?_eq_getElem h, Option.map_some]
 obtain ⟨⟨kind, name, other, num, ek, en, es, eof, body, els, re, im⟩, th, ar, c⟩ := X[i]
 rfl
theorem idx_off {sh : List _} {l : List T} {i : Int} : idx false sh l i = some default := rfl
theorem idx_8 {l : List Nat} {i : Nat} (h : i < l.length) : idx true [.int .i64] (l.map i8) (i : Int) = some (i8 l[i]) := by
 have h0 : decide ((0 : Int) <= (i : Int)) = true := by simp
 simp only [idx, cond_true, h0, Int.toNat_natCast, List.getElem?_map, List.getElem?_eq_getElem h, Option.map_some]
 rfl
theorem mem_drop_here {α : Type} {l : List α} {i : Nat} (h : i < l.length) (b : α) : b ∈ l.drop i ↔ b = l[i] \/ b ∈ l.drop (i + 1) := by
 rw [List.drop_eq_getElem_cons h, List.mem_cons]
theorem contains_eq (l : List Nat) (hl : l.length <= 100000) (hn : 100000 < n) (b : Nat) : m_slices_Contains___int_int_ n (l.map iN) (b : Int) = some (decide (b ∈ l)) := by
 have loop : ∀ (m i : Nat), i <= l.length -> l.length - i < m -> ∃ x, l_slices_Index___int_int__2 n m (l.map iN, (b : Int), ((l.length : Nat) : Int), (i : Int)) = some x /\ (match x with
   | .inl v => 0 <= v /\ b ∈ l.drop i
   | .inr _ => ¬ b ∈ l.drop i) := by
  intro m
  induction m with
  | zero => intro i h1 h2; omega
  | succ m ih =>
   intro i h1 h2
   rw [l_slices_Index___int_int__2]
   unfold l_slices_Index___int_int__2_B
   simp only
   by_cases hlt : i < l.length
   ·rw [decide_eq_true (show (i : Int) < ((l.length : Nat) : Int) by omega), cond_true, idx_N hlt, Option.bind_some]
    have e : ((iN l[i]).cell 0).int = (l[i] : Int) := rfl
    rw [e]
    by_cases hb : b = l[i]
    ·rw [show (((b : Nat) : Int) == ((l[i] : Nat) : Int)) = true by rw [beq_iff_eq]; omega, cond_true]
     exact ⟨_, rfl, by omega, (mem_drop_here hlt b).2 (.inl hb)⟩
    ·rw [show (((b : Nat) : Int) == ((l[i] : Nat) : Int)) = false by rw [beq_eq_false_iff_ne]; omega, cond_false, wrap_up (show i <= 281474976710656 by omega)]
     obtain ⟨x, hx, hx2⟩ := ih (i + 1) (by omega) (by omega)
     refine ⟨x, hx, ?_⟩
     cases x with
     | inl v => exact ⟨hx2.1, (mem_drop_here hlt b).2 (.inr hx2.2)⟩
     | inr v => exact fun h => ((mem_drop_here hlt b).1 h).elim hb hx2
   ·rw [decide_eq_false (show ¬ (i : Int) < ((l.length : Nat) : Int) by omega), cond_false]
    exact ⟨_, rfl, by rw [List.drop_eq_nil_of_le (by omega)]; simp⟩
 unfold m_slices_Contains___int_int_ m_slices_Index___int_int_
 rw [List.length_map]
 obtain ⟨x, hx, hx2⟩ := loop n 0 (by omega) (by omega)
 rw [List.drop_zero] at hx2
 rw [show ((0 : Int)) = ((0 : Nat) : Int) from rfl, hx]
 cases x with
 | inl v => simp only [Option.bind_some, Sum.elim_inl]; rw [decide_eq_true hx2.2, decide_eq_true (show v ≥ ((0 : Nat) : Int) from hx2.1)]
 | inr v => simp only [Option.bind_some, Sum.elim_inr]; rw [decide_eq_false hx2]; rfl
theorem within8 (l : List Nat) (hl : l.length <= 100000) (hn : 100000 < n) (b : Nat) (a1 : Int) (a2 a3 : ByteArray) (a4 a5 a6 : Int) (a7 : ByteArray) (a8 a9 a10 : List T) (a11 : Nat × Nat) (a13 : Int) : m_sutureref8_within n ((b + 1 : Nat) : Int) a1 a2 a3 a4 a5 a6 a7 a8 a9 a10 a11 (l.map i8) a13 = some (decide (b ∈ l)) := by
 have loop : ∀ (m i : Nat), i <= l.length -> l.length - i < m -> ∃ x, l_sutureref8_within_2 n m (((b + 1 : Nat) : Int), (i : Int), a1, a2, a3, a4, a5, a6, a7, a8, a9, a10, a11, l.map i8, a13) = some x /\ (match x with
   | .inl v => v.1 = true /\ b ∈ l.drop i
   | .inr _ => ¬ b ∈ l.drop i) := by
  intro m
  induction m with
  | zero => intro i h1 h2; omega
  | succ m ih =>
   intro i h1 h2
   rw [l_sutureref8_within_2]
   unfold l_sutureref8_within_2_B
   simp only [List.length_map]
   by_cases hlt : i < l.length
   ·rw [decide_eq_true (show (i : Int) < ((l.length : Nat) : Int) by omega), cond_true, idx_8 hlt, Option.bind_some]
    have e : ((i8 l[i]).cell 0).int = ((l[i] + 1 : Nat) : Int) := rfl
    rw [e]
    by_cases hb : b = l[i]
    ·rw [show (((l[i] + 1 : Nat) : Int) == ((b + 1 : Nat) : Int)) = true by rw [beq_iff_eq]; omega, cond_true]
     exact ⟨_, rfl, rfl, (mem_drop_here hlt b).2 (.inl hb)⟩
    ·rw [show (((l[i] + 1 : Nat) : Int) == ((b + 1 : Nat) : Int)) = false by rw [beq_eq_false_iff_ne]; omega, cond_false, wrap_up (show i <= 281474976710656 by omega)]
     obtain ⟨x, hx, hx2⟩ := ih (i + 1) (by omega) (by omega)
     refine ⟨x, hx, ?_⟩
     cases x with
     | inl v => exact ⟨hx2.1, (mem_drop_here hlt b).2 (.inr hx2.2)⟩
     | inr v => exact fun h => ((mem_drop_here hlt b).1 h).elim hb hx2
   ·rw [decide_eq_false (show ¬ (i : Int) < ((l.length : Nat) : Int) by omega), cond_false]
    exact ⟨_, rfl, by rw [List.drop_eq_nil_of_le (by omega)]; simp⟩
 unfold m_sutureref8_within
 obtain ⟨x, hx, hx2⟩ := loop n 0 (by omega) (by omega)
 rw [List.drop_zero] at hx2
 rw [show ((0 : Int)) = ((0 : Nat) : Int) from rfl, hx]
 cases x with
 | inl v => simp only [Option.bind_some, Sum.elim_inl]; rw [decide_eq_true hx2.2, hx2.1]
 | inr v => simp only [Option.bind_some, Sum.elim_inr]; rw [decide_eq_false hx2]
end
def findF (p : Nat -> Bool) : Nat -> Nat -> Option Nat
 | 0, _ => none
 | f + 1, k => if p k then some k else findF p f (k + 1)
theorem findF_none {p : Nat -> Bool} : ∀ (f k : Nat), (∀ j, k <= j -> j < k + f -> p j = false) -> findF p f k = none
 | 0, k, _ => rfl
 | f + 1, k, h => by
  rw [findF, h k (Nat.le_refl _) (by omega), if_neg (by simp)]
  exact findF_none f (k + 1) (fun j h1 h2 => h j (by omega) (by omega))
theorem findF_some {p : Nat -> Bool} : ∀ (f k : Nat) {t : Nat}, findF p f k = some t -> k <= t /\ t < k + f
 | 0, k, t, h => by cases h
 | f + 1, k, t, h => by
  rw [findF] at h
  split at h
  ·cases h; omega
  ·have := findF_some f (k + 1) h; omega
def nmEq (y a : Pl) : Bool := ByteArray.toList y.s.name == ByteArray.toList a.s.name
def lastIn (y a : Pl) : Bool := match y.ar.getLast? with
 | some b => decide (b ∈ a.ar)
 | none => false
def hit (X : List Pl) (a : Pl) (k : Nat) : Bool := match X[k]? with
 | some y => (y.s.kind == 10) && nmEq y a && (y.th == a.th) && lastIn y a
 | none => false
def tgt (X : List Pl) (i : Nat) : Int := match X[i]? with
 | none => -1
 | some a => if a.s.kind = 9 then (match findF (hit X a) (X.length - (i + 1)) (i + 1) with
  | some t => (t : Int)
  | none => -1) else -1
structure Ord (X : List Pl) : Prop where
 len : X.length <= 6000
 ne : ∀ x ∈ X, x.ar ≠ []
 ar : ∀ x ∈ X, x.ar.length <= 100000
 mono : ∀ (i j : Nat) (hi : i < X.length) (hj : j < X.length), i <= j -> X[i].th <= X[j].th
section
variable {n : Nat} (hn : 100000 < n) {X : List Pl} (hX : Ord X)
include hn hX
theorem last_eq {k : Nat} (hlt : k < X.length) : 0 < X[k].ar.length /\ ∀ a : Pl, lastIn X[k] a = decide (X[k].ar[X[k].ar.length - 1]'(by have := List.length_pos_iff.2 (hX.ne _ (List.getElem_mem hlt)); omega) ∈ a.ar) := by
 have hl0 : 0 < X[k].ar.length := List.length_pos_iff.2 (hX.ne _ (List.getElem_mem hlt))
 refine ⟨hl0, fun a => ?_⟩
 unfold lastIn
 rw [List.getLast?_eq_getElem?, List.getElem?_eq_getElem (by omega)]
theorem target_eq {i : Nat} (hi : i < X.length) : m_jumps_target n (X.map encPl) (i : Int) = some (tgt X i) := by
 have hlen := hX.len
 have loop : ∀ (m k : Nat), i < k -> k <= X.length -> X.length - k < m -> ∀ s2 s4 s5 s6 s7 s8 s9 s10 s11 s12, l_jumps_target_5 n m (X.map encPl, (k : Int), s2, X[i].s.name, s4, s5, s6, s7, s8, s9, s10, s11, s12, (X[i].th : Int), X[i].ar.map iN) =
   some (match findF (hit X X[i]) (X.length - k) k with
    | some t => .inl ((t : Int), s2, X[i].s.name, s4, s5, s6, s7, s8, s9, s10, s11, s12, (X[i].th : Int), X[i].ar.map iN)
    | none => .inr (s2, X[i].s.name, s4, s5, s6, s7, s8, s9, s10, s11, s12, (X[i].th : Int), X[i].ar.map iN)) := by
  intro m
  induction m with
  | zero => intro k h0 h1 h2; omega
  | succ m ih =>
   intro k h0 h1 h2 s2 s4 s5 s6 s7 s8 s9 s10 s11 s12
   rw [l_jumps_target_5]
   unfold l_jumps_target_5_B
   simp only [List.length_map]
   by_cases hlt : k < X.length
   ·have hd : decide ((k : Int) < ((X.length : Nat) : Int)) = true := decide_eq_true (by omega)
    simp only [hd, idx_Pl hlt, Option.bind_some, cond_true]
    obtain ⟨g0, g1, g2, g3⟩ := getPl X[k]
    simp only [g0, g1, g2, g3, List.length_map]
    by_cases hth : X[k].th = X[i].th
    ·rw [show (((X[k].th : Nat) : Int) == ((X[i].th : Nat) : Int)) = true by rw [beq_iff_eq]; omega, cond_true]
     obtain ⟨hl0, hla⟩ := last_eq hn hX hlt
     have hal' := hX.ar _ (List.getElem_mem hlt)
     rw [wrap_id (show -9223372036854775808 <= ((X[k].ar.length : Nat) : Int) - 1 by omega) (by omega), show ((X[k].ar.length : Nat) : Int) - 1 = ((X[k].ar.length - 1 : Nat) : Int) by omega]
     rw [wrap_up (show k <= 281474976710656 by omega)]
     have next := ih (k + 1) (by omega) (by omega) (by omega) s2 s4 s5 s6 s7 s8 s9 s10 s11 s12
     have hhit : hit X X[i] k = ((bif ((X[k].s.kind : Int) == 10) then (ByteArray.toList X[k].s.name == ByteArray.toList X[i].s.name) else false) && lastIn X[k] X[i]) := by
      unfold hit nmEq
      rw [List.getElem?_eq_getElem hlt]
      simp only
      rw [show (X[k].th == X[i].th) = true from beq_iff_eq.2 hth, Bool.and_true]
      cases ((X[k].s.kind : Int) == 10) <;> rfl
     obtain ⟨f, hf⟩ : ∃ f, X.length - k = f + 1 := ⟨X.length - k - 1, by omega⟩
     rw [hf, findF, hhit]
     rw [show X.length - (k + 1) = f by omega] at next
     cases hk : (bif ((X[k].s.kind : Int) == 10) then (ByteArray.toList X[k].s.name == ByteArray.toList X[i].s.name) else false) with
     | false =>
      rw [idx_off]
      simp only [cond_false, Option.bind_some, Bool.false_and, Bool.false_eq_true, if_false]
      exact next
     | true =>
      rw [idx_N (show X[k].ar.length - 1 < X[k].ar.length by omega)]
      simp only [Option.bind_some, cond_true]
      have e4 : ((iN (X[k].ar[X[k].ar.length - 1]'(by omega))).cell 0).int = ((X[k].ar[X[k].ar.length - 1]'(by omega) : Nat) : Int) := rfl
      rw [e4, contains_eq X[i].ar (hX.ar _ (List.getElem_mem hi)) hn, Option.bind_some, <- hla X[i], Bool.true_and]
      cases lastIn X[k] X[i] with
      | true => simp only [cond_true, if_true]
      | false => simp only [cond_false, Bool.false_eq_true, if_false]; exact next
    ·rw [show (((X[k].th : Nat) : Int) == ((X[i].th : Nat) : Int)) = false by rw [beq_eq_false_iff_ne]; omega, cond_false]
     rw [findF_none _ _ (fun j h3 h4 => ?_)]
     have hj : j < X.length := by omega
     unfold hit
     rw [List.getElem?_eq_getElem hj]
     simp only
     have m1 := hX.mono i k hi hlt (by omega)
     have m2 := hX.mono k j hlt hj h3
     rw [show (X[j].th == X[i].th) = false by rw [beq_eq_false_iff_ne]; omega, Bool.and_false, Bool.false_and]
   ·rw [decide_eq_false (show ¬ (k : Int) < ((X.length : Nat) : Int) by omega), idx_off]
    simp only [Option.bind_some, cond_false]
    rw [show X.length - k = 0 by omega]
    rfl
 unfold m_jumps_target tgt
 rw [List.length_map, List.getElem?_eq_getElem hi, decide_eq_false (show ¬ (i : Int) < 0 by omega), decide_eq_false (show ¬ (i : Int) ≥ ((X.length : Nat) : Int) by omega)]
 simp only [cond_false, Bool.not_false]
 rw [idx_Pl hi]
 simp only [Option.bind_some]
 obtain ⟨g0, g1, g2, g3⟩ := getPl X[i]
 simp only [g0, g1, g2, g3]
 by_cases h9 : X[i].s.kind = 9
 ·rw [show ((X[i].s.kind : Int) != 9) = false by rw [h9]; rfl, cond_false, if_pos h9, wrap_up (show i <= 281474976710656 by omega), loop n (i + 1) (by omega) (by omega) (by omega), Option.bind_some]
  cases findF (hit X X[i]) (X.length - (i + 1)) (i + 1) with
  | some t => rfl
  | none => rfl
 ·rw [show ((X[i].s.kind : Int) != 9) = true by simp [bne, h9], cond_true, if_neg h9]
omit hn hX in
theorem target_out {j : Int} (h : j < 0 \/ (X.length : Int) <= j) : m_jumps_target n (X.map encPl) j = some (-1) := by
 unfold m_jumps_target
 rw [List.length_map]
 have e : (bif (decide ((j : Int) < 0)) then true else (decide ((j : Int) ≥ ((X.length : Nat) : Int)))) = true := by
  rcases h with h | h
  ·rw [decide_eq_true h]; rfl
  ·rw [decide_eq_true (show j ≥ ((X.length : Nat) : Int) from h)]; cases decide (j < 0) <;> rfl
 rw [e]
 rfl
theorem target8_eq {i : Nat} (hi : i < X.length) : m_sutureref8_target n (X.map encM8) (i : Int) = some (tgt X i) := by
 have hlen := hX.len
 have loop : ∀ (m k : Nat), i < k -> k <= X.length -> X.length - k < m -> l_sutureref8_target_4 n m (X.map encM8, (i : Int), (k : Int)) =
   some (match findF (hit X X[i]) (X.length - k) k with
    | some t => .inl (t : Int)
    | none => .inr ()) := by
  intro m
  induction m with
  | zero => intro k h0 h1 h2; omega
  | succ m ih =>
   intro k h0 h1 h2
   rw [l_sutureref8_target_4]
   unfold l_sutureref8_target_4_B
   simp only [List.length_map]
   by_cases hlt : k < X.length
   ·have hd : decide ((k : Int) < ((X.length : Nat) : Int)) = true := decide_eq_true (by omega)
    simp only [hd, idx_M8 hlt, Option.bind_some, cond_true]
    obtain ⟨g0, g1, g2, g3⟩ := getM8 X[k]
    obtain ⟨a0, a1, a2, a3⟩ := getM8 X[i]
    simp only [g0, g1, g2, g3, List.length_map]
    obtain ⟨hl0, hla⟩ := last_eq hn hX hlt
    have hal' := hX.ar _ (List.getElem_mem hlt)
    rw [wrap_id (show -9223372036854775808 <= ((X[k].ar.length : Nat) : Int) - 1 by omega) (by omega), show ((X[k].ar.length : Nat) : Int) - 1 = ((X[k].ar.length - 1 : Nat) : Int) by omega]
    rw [wrap_up (show k <= 281474976710656 by omega)]
    have next := ih (k + 1) (by omega) (by omega) (by omega)
    obtain ⟨f, hf⟩ : ∃ f, X.length - k = f + 1 := ⟨X.length - k - 1, by omega⟩
    have hhit : hit X X[i] k = ((X[k].s.kind == 10) && nmEq X[k] X[i] && (X[k].th == X[i].th) && lastIn X[k] X[i]) := by
     unfold hit
     rw [List.getElem?_eq_getElem hlt]
    rw [hf, findF, hhit]
    rw [show X.length - (k + 1) = f by omega] at next
    cases h10 : ((X[k].s.kind : Int) == 10) with
    | false =>
     simp only [idx_off, Option.bind_some, cond_false, Bool.false_and, Bool.false_eq_true, if_false]
     exact next
    | true =>
     simp only [cond_true]
     rw [idx_M8 hi]
     simp only [Option.bind_some, a1]
     have hnm : (ByteArray.toList X[k].s.name == ByteArray.toList X[i].s.name) = nmEq X[k] X[i] := rfl
     rw [hnm]
     cases nmEq X[k] X[i] with
     | false =>
      simp only [idx_off, Option.bind_some, cond_false, Bool.and_false, Bool.false_and, Bool.false_eq_true, if_false]
      exact next
     | true =>
      simp only [cond_true]
      rw [idx_M8 hi]
      simp only [Option.bind_some, a2]
      have hth : (((X[k].th : Nat) : Int) == ((X[i].th : Nat) : Int)) = (X[k].th == X[i].th) := by
       by_cases h : X[k].th = X[i].th
       ·rw [beq_iff_eq.2 h, beq_iff_eq]; omega
       ·rw [beq_eq_false_iff_ne.2 h, beq_eq_false_iff_ne]; omega
      rw [hth]
      cases (X[k].th == X[i].th) with
      | false =>
       simp only [idx_off, Option.bind_some, cond_false, Bool.and_false, Bool.false_and, Bool.false_eq_true, if_false]
       exact next
      | true =>
       simp only [cond_true]
       rw [idx_8 (show X[k].ar.length - 1 < X[k].ar.length by omega), idx_M8 hi]
       simp only [Option.bind_some, a3]
       have e4 : ((i8 (X[k].ar[X[k].ar.length - 1]'(by omega))).cell 0).int = (((X[k].ar[X[k].ar.length - 1]'(by omega)) + 1 : Nat) : Int) := rfl
       rw [e4, within8 X[i].ar (hX.ar _ (List.getElem_mem hi)) hn, Option.bind_some, <- hla X[i]]
       simp only [Bool.true_and]
       cases lastIn X[k] X[i] with
       | true => simp only [cond_true, if_true]
       | false => simp only [cond_false, Bool.false_eq_true, if_false]; exact next
   ·rw [decide_eq_false (show ¬ (k : Int) < ((X.length : Nat) : Int) by omega), cond_false]
    rw [show X.length - k = 0 by omega]
    rfl
 unfold m_sutureref8_target tgt
 rw [List.length_map, List.getElem?_eq_getElem hi, decide_eq_false (show ¬ (i : Int) < 0 by omega), decide_eq_false (show ¬ (i : Int) ≥ ((X.length : Nat) : Int) by omega)]
 simp only [cond_false, Bool.not_false]
 rw [idx_M8 hi]
 simp only [Option.bind_some]
 obtain ⟨g0, g1, g2, g3⟩ := getM8 X[i]
 simp only [g0]
 by_cases h9 : X[i].s.kind = 9
 ·rw [show ((X[i].s.kind : Int) != 9) = false by rw [h9]; rfl, cond_false, if_pos h9, wrap_up (show i <= 281474976710656 by omega), loop n (i + 1) (by omega) (by omega) (by omega), Option.bind_some]
  cases findF (hit X X[i]) (X.length - (i + 1)) (i + 1) with
  | some t => rfl
  | none => rfl
 ·rw [show ((X[i].s.kind : Int) != 9) = true by simp [bne, h9], cond_true, if_neg h9]
omit hn hX in
theorem target8_out {j : Int} (h : j < 0 \/ (X.length : Int) <= j) : m_sutureref8_target n (X.map encM8) j = some (-1) := by
 unfold m_sutureref8_target
 rw [List.length_map]
 have e : (bif (decide ((j : Int) < 0)) then true else (decide ((j : Int) ≥ ((X.length : Nat) : Int)))) = true := by
  rcases h with h | h
  ·rw [decide_eq_true h]; rfl
  ·rw [decide_eq_true (show j ≥ ((X.length : Nat) : Int) from h)]; cases decide (j < 0) <;> rfl
 rw [e]
 rfl
end
end Go.Proofs.Ytgpokdaacbjimab.W
namespace Go.Proofs.Ytgpokdaacbjimab.W
open Go Go.Eng
set_option linter.unusedVariables false
set_option linter.unusedSimpArgs false
set_option linter.unusedSectionVars false
def lbl (x y : Pl) : Bool := (y.th == x.th) && (y.s.kind == 10) && nmEq y x
def tw (X : List Pl) (i : Nat) : Bool := match X[i]? with
 | some x => (x.s.kind == 10) && (X.take i).any (lbl x)
 | none => false
def wrong (X : List Pl) (i : Nat) : Bool := tw X i || (match X[i]? with
 | some x => (x.s.kind == 9) && decide (tgt X i < 0)
 | none => false)
def resX (X : List Pl) : (Nat × Nat) × Int := match findF (wrong X) X.length 0 with
 | some i => (match X[i]? with
  | some x => (x.s.at_, 4)
  | none => ((0, 0), 0))
 | none => ((0, 0), 0)
theorem any_drop_here {α : Type} (p : α -> Bool) {l : List α} {j : Nat} (h : j < l.length) : (l.drop j).any p = (p l[j] || (l.drop (j + 1)).any p) := by
 rw [List.drop_eq_getElem_cons h, List.any_cons]
theorem tw_at {X : List Pl} {i : Nat} (h : i < X.length) : tw X i = ((X[i].s.kind == 10) && (X.take i).any (lbl X[i])) := by
 unfold tw
 rw [List.getElem?_eq_getElem h]
theorem wrong_at {X : List Pl} {i : Nat} (h : i < X.length) : wrong X i = (tw X i || ((X[i].s.kind == 9) && decide (tgt X i < 0))) := by
 unfold wrong
 rw [List.getElem?_eq_getElem h]
theorem eqb_nat (a b : Nat) : (((a : Nat) : Int) == ((b : Nat) : Int)) = (a == b) := by
 by_cases h : a = b
 ·rw [beq_iff_eq.2 h, beq_iff_eq]; omega
 ·rw [beq_eq_false_iff_ne.2 h, beq_eq_false_iff_ne]; omega
section
variable {n : Nat} (hn : 100000 < n) {X : List Pl} (hX : Ord X)
include hn hX
theorem twice_eq {i : Nat} (hi : i < X.length) : m_jumps_twice n (X.map encPl) (i : Int) = some (tw X i) := by
 have hlen := hX.len
 rw [tw_at hi]
 unfold m_jumps_twice
 rw [idx_Pl hi, Option.bind_some]
 obtain ⟨g0, g1, g2, g3⟩ := getPl X[i]
 rw [g0, g1, g2, g3]
 refine must_is ?_ ?_
 ·rw [sized_Pl]
  simp only [List.length_map, Bool.and_true, Bool.and_eq_true, decide_eq_true_eq]
  omega
 by_cases h10 : X[i].s.kind = 10
 ·rw [show ((X[i].s.kind : Int) == 10) = true from beq_iff_eq.2 h10]
  simp only [cond_true, Bool.true_and]
  have eY : List.drop (Int.toNat 0) (List.take (Int.toNat (i : Int)) (X.map encPl)) = (X.take i).map encPl := by
   rw [Int.toNat_natCast, List.map_take]; rfl
  rw [eY]
  have hY : (X.take i).length <= 6000 := by rw [List.length_take]; omega
  generalize X.take i = Y at *
  have hloop : ∀ (m j : Nat), j <= Y.length -> Y.length - j < m -> ∀ k2 k3 k4 k5 k6 k7 k8 k9 k10 k11 k13, ∃ x, l_slices_IndexFunc___jumps_placed_jumps_placed__2 n m (Y.map encPl, ((Y.length : Nat) : Int), (j : Int), k2, X[i].s.name, k3, k4, k5, k6, k7, k8, k9, k10, k11, (X[i].th : Int), k13) = some x /\ (match x with
    | .inl p => 0 <= p.1 /\ (Y.drop j).any (lbl X[i]) = true
    | .inr _ => (Y.drop j).any (lbl X[i]) = false) := by
   intro m
   induction m with
   | zero => intro j h1 h2; omega
   | succ m ih =>
    intro j h1 h2 k2 k3 k4 k5 k6 k7 k8 k9 k10 k11 k13
    rw [l_slices_IndexFunc___jumps_placed_jumps_placed__2]
    unfold l_slices_IndexFunc___jumps_placed_jumps_placed__2_B
    simp only
    by_cases hlt : j < Y.length
    ·rw [decide_eq_true (show (j : Int) < ((Y.length : Nat) : Int) by omega), cond_true, idx_Pl hlt, Option.bind_some]
     unfold m_jumps_twice_1
     obtain ⟨a0, a1, a2, a3⟩ := getPl Y[j]
     rw [a0, a1, a2]
     simp only [Option.bind_some]
     have hl : (bif (bif (((Y[j].th : Nat) : Int) == ((X[i].th : Nat) : Int)) then ((Y[j].s.kind : Int) == 10) else false) then (ByteArray.toList Y[j].s.name == ByteArray.toList X[i].s.name) else false) = lbl X[i] Y[j] := by
      unfold lbl nmEq
      rw [eqb_nat]
      cases (Y[j].th == X[i].th) <;> cases (Y[j].s.kind == 10) <;> rfl
     rw [hl, any_drop_here _ hlt]
     cases hb : lbl X[i] Y[j] with
     | true =>
      rw [cond_true]
      exact ⟨_, rfl, by simp only; omega, by rw [Bool.true_or]⟩
     | false =>
      rw [cond_false, wrap_up (show j <= 281474976710656 by omega), Bool.false_or]
      exact ih (j + 1) (by omega) (by omega) _ _ _ _ _ _ _ _ _ _ _
    ·rw [decide_eq_false (show ¬ (j : Int) < ((Y.length : Nat) : Int) by omega), cond_false]
     exact ⟨_, rfl, by rw [List.drop_eq_nil_of_le (by omega)]; rfl⟩
  unfold m_slices_ContainsFunc___jumps_placed_jumps_placed_ m_slices_IndexFunc___jumps_placed_jumps_placed_
  rw [List.length_map]
  obtain ⟨x, hx, hx2⟩ := hloop n 0 (by omega) (by omega) X[i].s.kind ((encPl X[i]).cell 2).str ((encPl X[i]).cell 3).int ((encPl X[i]).cell 4).int ((encPl X[i]).cell 5).int ((encPl X[i]).cell 6).str ((encPl X[i]).cell 7).lst ((encPl X[i]).cell 8).lst ((encPl X[i]).cell 9).lst (((encPl X[i]).cell 10).re, ((encPl X[i]).cell 10).im) (X[i].ar.map iN)
  rw [show ((0 : Int)) = ((0 : Nat) : Int) from rfl, hx]
  rw [List.drop_zero] at hx2
  cases x with
  | inl p =>
   obtain ⟨p1, p2⟩ := p
   simp only [Option.bind_some, Sum.elim_inl]
   rw [hx2.2, decide_eq_true (show p1 ≥ ((0 : Nat) : Int) from hx2.1)]
  | inr p =>
   simp only [Option.bind_some, Sum.elim_inr]
   rw [hx2]
   rfl
 ·rw [show ((X[i].s.kind : Int) == 10) = false from beq_eq_false_iff_ne.2 h10]
  rfl
theorem check_eq (P : List (List S)) (hP : cntP P <= 6000) (hl : P.length <= 4) (hXP : (plP P 0 0).1 = X) (d : List T) : m_jumps_Check n d (encP P) = some (resX X) := by
 have hlen := hX.len
 have loop : ∀ (m k : Nat), k <= X.length -> X.length - k < m -> ∀ s4 s5, l_jumps_Check_3 n m (X.map encPl, X.map encPl, ((X.length : Nat) : Int), (k : Int), s4, s5) = some (match findF (wrong X) (X.length - k) k with
   | some i => (match X[i]? with
    | some x => .inl (x.s.at_, 4, s4, s5)
    | none => .inr (s4, s5))
   | none => .inr (s4, s5)) := by
  intro m
  induction m with
  | zero => intro k h1 h2; omega
  | succ m ih =>
   intro k h1 h2 s4 s5
   rw [l_jumps_Check_3]
   unfold l_jumps_Check_3_B
   simp only
   by_cases hlt : k < X.length
   ·rw [decide_eq_true (show (k : Int) < ((X.length : Nat) : Int) by omega), cond_true, idx_Pl hlt, Option.bind_some, twice_eq hn hX hlt, Option.bind_some]
    obtain ⟨g0, g1, g2, g3⟩ := getPl X[k]
    rw [g0, atPl]
    obtain ⟨f, hf⟩ : ∃ f, X.length - k = f + 1 := ⟨X.length - k - 1, by omega⟩
    have next := ih (k + 1) (by omega) (by omega) s4 s5
    rw [show X.length - (k + 1) = f by omega] at next
    rw [hf, findF, wrong_at hlt, wrap_up (show k <= 281474976710656 by omega), target_eq hn hX hlt]
    cases tw X k with
    | true =>
     simp only [Bool.not_true, Bool.false_and, cond_false, Option.bind_some, cond_true, Bool.true_or, if_true]
     rw [List.getElem?_eq_getElem hlt]
    | false =>
     simp only [Bool.not_false, Bool.true_and, Bool.false_or]
     cases h9 : ((X[k].s.kind : Int) == 9) with
     | false =>
      simp only [cond_false, Option.bind_some, Bool.false_and, Bool.false_eq_true, if_false]
      exact next
     | true =>
      simp only [cond_true, Option.bind_some, Bool.true_and]
      cases hd : decide (tgt X k < 0) with
      | true =>
       simp only [cond_true, cond_false, if_true]
       rw [List.getElem?_eq_getElem hlt]
      | false =>
       simp only [cond_false, Bool.false_eq_true, if_false]
       exact next
   ·rw [decide_eq_false (show ¬ (k : Int) < ((X.length : Nat) : Int) by omega), cond_false, show X.length - k = 0 by omega]
    rfl
 unfold m_jumps_Check
 rw [all_eq hn P hP hl d, hXP, Option.bind_some, List.length_map, show ((0 : Int)) = ((0 : Nat) : Int) from rfl, loop n 0 (by omega) (by omega), Option.bind_some, Nat.sub_zero]
 unfold resX
 cases findF (wrong X) X.length 0 with
 | none => rfl
 | some i =>
  simp only
  cases X[i]? with
  | none => rfl
  | some x => rfl
theorem inner8 {i : Nat} (hi : i < X.length) : ∀ (m j : Nat), j <= i -> i - j < m -> ∀ (s3 s4 : List T) (s7 : ByteArray) (s8 s9 s10 : Int) (s11 : ByteArray) (s12 s13 s14 : List T) (s15 : Nat × Nat) (s16 : List T),
  ∃ x, l_sutureref8_Jumps_9 n m (X.map encM8, (i : Int), (j : Int), s3, s4, X[i].s.kind, X[i].s.name, s7, s8, s9, s10, s11, s12, s13, s14, s15, s16, (X[i].th : Int)) = some x /\ (match x with
   | .inl p => p.1 = s15 /\ p.2.1 = 4 /\ p.2.2.1 = s3 /\ p.2.2.2.1 = s4 /\ ((X[i].s.kind == 10) && ((X.take i).drop j).any (lbl X[i])) = true
   | .inr p => p.1 = X.map encM8 /\ p.2.1 = (i : Int) /\ p.2.2.1 = s3 /\ p.2.2.2.1 = s4 /\ ((X[i].s.kind == 10) && ((X.take i).drop j).any (lbl X[i])) = false) := by
 have hlen := hX.len
 have hti : (X.take i).length = i := by rw [List.length_take]; omega
 intro m
 induction m with
 | zero => intro j h1 h2; omega
 | succ m ih =>
  intro j h1 h2 s3 s4 s7 s8 s9 s10 s11 s12 s13 s14 s15 s16
  rw [l_sutureref8_Jumps_9]
  unfold l_sutureref8_Jumps_9_B
  simp only
  cases h10 : ((X[i].s.kind : Int) == 10) with
  | false =>
   have e : (bif (decide ((j : Int) < (i : Int))) then false else false) = false := by cases decide ((j : Int) < (i : Int)) <;> rfl
   rw [e, cond_false]
   exact ⟨_, rfl, rfl, rfl, rfl, rfl, by rw [Bool.false_and]⟩
  | true =>
   by_cases hlt : j < i
   ·have hj : j < X.length := by omega
    rw [decide_eq_true (show (j : Int) < (i : Int) by omega)]
    simp only [cond_true, Bool.true_and]
    rw [idx_M8 hj, Option.bind_some]
    obtain ⟨a0, a1, a2, a3⟩ := getM8 X[j]
    rw [a0]
    have hget : (X.take i)[j]'(by rw [hti]; exact hlt) = X[j] := List.getElem_take
    have hany := any_drop_here (lbl X[i]) (l := X.take i) (j := j) (by rw [hti]; exact hlt)
    rw [hget] at hany
    rw [wrap_up (show j <= 281474976710656 by omega), hany]
    have next := ih (j + 1) (by omega) (by omega) s3 s4 s7 s8 s9 s10 s11 s12 s13 s14 s15 s16
    rw [h10] at next
    simp only [Bool.true_and] at next
    unfold lbl at *
    cases q1 : ((X[j].s.kind : Int) == 10) with
    | false =>
     simp only [idx_off, Option.bind_some, cond_false, Bool.and_false, Bool.false_and, Bool.false_or]
     exact next
    | true =>
     simp only [cond_true]
     rw [idx_M8 hj]
     simp only [Option.bind_some, a1]
     have hnm : (ByteArray.toList X[j].s.name == ByteArray.toList X[i].s.name) = nmEq X[j] X[i] := rfl
     rw [hnm]
     cases q2 : nmEq X[j] X[i] with
     | false =>
      simp only [idx_off, Option.bind_some, cond_false, Bool.and_false, Bool.false_or]
      exact next
     | true =>
      simp only [cond_true]
      rw [idx_M8 hj]
      simp only [Option.bind_some, a2]
      rw [eqb_nat]
      cases q3 : (X[j].th == X[i].th) with
      | false =>
       simp only [cond_false, Bool.false_and, Bool.false_or]
       exact next
      | true =>
       simp only [cond_true]
       exact ⟨_, rfl, rfl, rfl, rfl, rfl, by simp⟩
   ·rw [decide_eq_false (show ¬ (j : Int) < (i : Int) by omega)]
    simp only [cond_false]
    exact ⟨_, rfl, rfl, rfl, rfl, rfl, by rw [List.drop_eq_nil_of_le (by omega)]; simp⟩
theorem jumps8_eq (P : List (List S)) (hP : cntP P <= 6000) (hl : P.length <= 4) (hXP : (plP P 0 0).1 = X) (d : List T) : m_sutureref8_Jumps n d (encP P) = some (resX X) := by
 have hlen := hX.len
 have loop : ∀ (m k : Nat), k <= X.length -> X.length - k < m -> ∀ s4 s5, l_sutureref8_Jumps_3 n m (X.map encM8, (k : Int), s4, s5) = some (match findF (wrong X) (X.length - k) k with
   | some i => (match X[i]? with
    | some x => .inl (x.s.at_, 4, s4, s5)
    | none => .inr (s4, s5))
   | none => .inr (s4, s5)) := by
  intro m
  induction m with
  | zero => intro k h1 h2; omega
  | succ m ih =>
   intro k h1 h2 s4 s5
   rw [l_sutureref8_Jumps_3]
   unfold l_sutureref8_Jumps_3_B
   simp only [List.length_map]
   by_cases hlt : k < X.length
   ·rw [decide_eq_true (show (k : Int) < ((X.length : Nat) : Int) by omega), cond_true, idx_M8 hlt, Option.bind_some]
    obtain ⟨g0, g1, g2, g3⟩ := getM8 X[k]
    rw [g0, g1, g2, g3, atM8]
    obtain ⟨f, hf⟩ : ∃ f, X.length - k = f + 1 := ⟨X.length - k - 1, by omega⟩
    have next := ih (k + 1) (by omega) (by omega) s4 s5
    rw [show X.length - (k + 1) = f by omega] at next
    rw [hf, findF, wrong_at hlt, target8_eq hn hX hlt, tw_at hlt]
    obtain ⟨x, hx, hx2⟩ := inner8 (n := n) hn hX hlt n 0 (by omega) (by omega) s4 s5 ((encM8 X[k]).cell 2).str ((encM8 X[k]).cell 3).int ((encM8 X[k]).cell 4).int ((encM8 X[k]).cell 5).int ((encM8 X[k]).cell 6).str ((encM8 X[k]).cell 7).lst ((encM8 X[k]).cell 8).lst ((encM8 X[k]).cell 9).lst X[k].s.at_ (X[k].ar.map i8)
    rw [List.drop_zero] at hx2
    cases h9 : ((X[k].s.kind : Int) == 9) with
    | true =>
     have hk9 := beq_iff_eq.1 h9
     have h10 : ((X[k].s.kind : Int) == 10) = false := by rw [beq_eq_false_iff_ne]; omega
     simp only [cond_true, Option.bind_some, Bool.true_and]
     rw [h10] at hx2 ⊢
     simp only [Bool.false_and, Bool.false_or]
     cases hd : decide (tgt X k < 0) with
     | true =>
      simp only [cond_true, if_true]
      rw [List.getElem?_eq_getElem hlt]
     | false =>
      simp only [cond_false, Bool.false_eq_true, if_false]
      rw [show ((0 : Int)) = ((0 : Nat) : Int) from rfl, hx]
      cases x with
      | inl p => simp at hx2
      | inr p =>
       obtain ⟨p1, p2, p3, p4, p5⟩ := p
       obtain ⟨e1, e2, e3, e4, _⟩ := hx2
       simp only at e1 e2 e3 e4
       subst e1 e2 e3 e4
       simp only [Option.bind_some, Sum.elim_inr]
       rw [wrap_up (show k <= 281474976710656 by omega)]
       exact next
    | false =>
     simp only [cond_false, Option.bind_some, Bool.false_and, Bool.or_false]
     rw [show ((0 : Int)) = ((0 : Nat) : Int) from rfl, hx]
     cases x with
     | inl p =>
      obtain ⟨p1, p2, p3, p4, p5⟩ := p
      obtain ⟨e1, e2, e3, e4, e5⟩ := hx2
      simp only at e1 e2 e3 e4
      subst e1 e2 e3 e4
      rw [e5]
      simp only [Option.bind_some, Sum.elim_inl, if_true]
      rw [List.getElem?_eq_getElem hlt]
     | inr p =>
      obtain ⟨p1, p2, p3, p4, p5⟩ := p
      obtain ⟨e1, e2, e3, e4, e5⟩ := hx2
      simp only at e1 e2 e3 e4
      subst e1 e2 e3 e4
      rw [e5]
      simp only [Option.bind_some, Sum.elim_inr, Bool.false_eq_true, if_false]
      rw [wrap_up (show k <= 281474976710656 by omega)]
      exact next
   ·rw [decide_eq_false (show ¬ (k : Int) < ((X.length : Nat) : Int) by omega), cond_false, show X.length - k = 0 by omega]
    rfl
 unfold m_sutureref8_Jumps
 rw [all8 hn P hP hl d, hXP, Option.bind_some, show ((0 : Int)) = ((0 : Nat) : Int) from rfl, loop n 0 (by omega) (by omega), Option.bind_some, Nat.sub_zero]
 unfold resX
 cases findF (wrong X) X.length 0 with
 | none => rfl
 | some i =>
  simp only
  cases X[i]? with
  | none => rfl
  | some x => rfl
end
end Go.Proofs.Ytgpokdaacbjimab.W
