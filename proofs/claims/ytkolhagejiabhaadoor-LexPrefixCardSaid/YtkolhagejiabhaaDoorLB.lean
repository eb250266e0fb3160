/- Chapter 2, plain: what a text is made of, said over lists of bytes; the printed functions that scan. -/
import Derived.Test.YtkolhagejiabhaaDoorLP
import Derived.Test.YtkolhagejiabhaaDoorLA
namespace Go.Proofs.YtkolhagejiabhaaDoor.W
open Go Go.Eng Go.Eng.Fl
set_option linter.unusedVariables false
set_option linter.unusedSimpArgs false

def L (s : ByteArray) : List UInt8 := s.data.toList

def blank (c : UInt8) : Bool := c == 32 || c == 9 || c == 10
def isLD (c : UInt8) : Bool := isL c || isD c
theorem isLD_L {c : UInt8} (h : isL c = true) : isLD c = true := by unfold isLD; rw [h]; rfl
theorem isLD_D {c : UInt8} (h : isD c = true) : isLD c = true := by unfold isLD; rw [h, Bool.or_true]
theorem isLD_no {c : UInt8} (h : isL c = false) (h2 : isD c = false) : isLD c = false := by unfold isLD; rw [h, h2]; rfl
structure Tok where
  kind : Int
  text : List UInt8
  num : Nat
  pos : Nat
def signs : List UInt8 := [61, 60, 43, 45, 42, 47, 37, 40, 41, 123, 125]
def numOk (w : List UInt8) : Bool := plainNum w && decide (val w < 9223372036854775808)

/-- The token that a text begins with. -/
def tokAt (r : List UInt8) (p : Nat) : Option Tok := match r with
  | [] => none
  | c :: r' =>
    if isL c then (if (r.takeWhile isLD).length ≤ 12 then some ⟨1, r.takeWhile isLD, 0, p⟩ else none)
    else if isD c then (if numOk (r.takeWhile isD) then some ⟨2, r.takeWhile isD, val (r.takeWhile isD), p⟩ else none)
    else if signs.contains c then (if c = 61 ∧ r'.head? = some 61 then some ⟨3, [61, 61], 0, p⟩ else some ⟨3, [c], 0, p⟩)
    else none

inductive LR where
  | ok (l : List Tok)
  | bad (p : Nat)

theorem dropWhile_le (f : UInt8 → Bool) (r : List UInt8) : (r.dropWhile f).length ≤ r.length := by
  have h := congrArg List.length (List.takeWhile_append_dropWhile (p := f) (l := r))
  rw [List.length_append] at h
  omega

/-- A text's tokens, from a place on. -/
def lexR : List UInt8 → Nat → List Tok → LR
  | [], p, acc => .ok acc
  | c :: r, p, acc =>
    if blank c then lexR r (p + 1) acc
    else if c = 35 then lexR (r.dropWhile (· != 10)) (p + 1 + (r.takeWhile (· != 10)).length) acc
    else match tokAt (c :: r) p with
      | none => .bad p
      | some t => lexR (r.drop (t.text.length - 1)) (p + t.text.length) (acc ++ [t])
termination_by l => l.length
decreasing_by
  · simp
  · have := dropWhile_le (· != 10) r; simp only [List.length_cons]; omega
  · simp only [List.length_cons, List.length_drop]; omega

theorem lexR_nil (p : Nat) (acc : List Tok) : lexR [] p acc = .ok acc := by rw [lexR]
theorem lexR_blank {c : UInt8} {r : List UInt8} {p : Nat} {acc : List Tok} (h : blank c = true) : lexR (c :: r) p acc = lexR r (p + 1) acc := by rw [lexR, if_pos h]
theorem lexR_note {r : List UInt8} {p : Nat} {acc : List Tok} : lexR (35 :: r) p acc = lexR (r.dropWhile (· != 10)) (p + 1 + (r.takeWhile (· != 10)).length) acc := by
  rw [lexR, if_neg (by decide), if_pos rfl]
theorem lexR_tok {c : UInt8} {r : List UInt8} {p : Nat} {acc : List Tok} (h : blank c = false) (h2 : c ≠ 35) {t : Tok} (ht : tokAt (c :: r) p = some t) : lexR (c :: r) p acc = lexR (r.drop (t.text.length - 1)) (p + t.text.length) (acc ++ [t]) := by
  rw [lexR, if_neg (by rw [h]; simp), if_neg h2, ht]
theorem lexR_bad {c : UInt8} {r : List UInt8} {p : Nat} {acc : List Tok} (h : blank c = false) (h2 : c ≠ 35) (ht : tokAt (c :: r) p = none) : lexR (c :: r) p acc = .bad p := by
  rw [lexR, if_neg (by rw [h]; simp), if_neg h2, ht]

/-- Several blanks at once. -/
theorem lexR_blanks : ∀ (r : List UInt8) (p : Nat) (acc : List Tok), lexR r p acc = lexR (r.dropWhile blank) (p + (r.takeWhile blank).length) acc
  | [], p, acc => rfl
  | c :: r, p, acc => by
    cases h : blank c with
    | true =>
      rw [lexR_blank h, lexR_blanks r (p + 1) acc, List.dropWhile_cons_of_pos h, List.takeWhile_cons_of_pos h]
      congr 1
      simp only [List.length_cons]; omega
    | false =>
      rw [List.dropWhile_cons_of_neg (by rw [h]; simp), List.takeWhile_cons_of_neg (by rw [h]; simp)]
      rfl

theorem drop_takeWhile (f : UInt8 → Bool) : ∀ (r : List UInt8), r.dropWhile f = r.drop (r.takeWhile f).length
  | [] => rfl
  | c :: r => by
    cases h : f c with
    | true => rw [List.dropWhile_cons_of_pos h, List.takeWhile_cons_of_pos h, drop_takeWhile f r]; rfl
    | false => rw [List.dropWhile_cons_of_neg (by rw [h]; simp), List.takeWhile_cons_of_neg (by rw [h]; simp)]; rfl

theorem take_takeWhile (f : UInt8 → Bool) (r : List UInt8) : r.take (r.takeWhile f).length = r.takeWhile f :=
  (List.prefix_iff_eq_take.1 (List.takeWhile_prefix f)).symm
theorem size_L (s : ByteArray) : s.size = (L s).length := size_list s

/-! bytes -/

theorem beq_byte (b c : UInt8) (k : Int) (h : ((c.toNat : Nat) : Int) = k) : ((((UInt8.toNat b : Nat) : Int) : Int) == k) = (b == c) := by
  apply Bool.eq_iff_iff.2
  rw [beq_iff_eq, beq_iff_eq, ← h]
  exact ⟨fun hh => UInt8.toNat_inj.1 (by omega), fun hh => by rw [hh]⟩

theorem bidx_at {s : ByteArray} {i : Nat} (h : i < (L s).length) : bidx true s (i : Int) = some (L s)[i] := by
  unfold bidx
  rw [decide_eq_true (show (0 : Int) ≤ (i : Int) by omega)]
  simp only [cond_true, Int.toNat_natCast]
  have h3 : i < s.size := by rw [size_L]; exact h
  rw [getElem?_pos s i h3]
  simp [L, ByteArray.getElem_eq_getElem_data]

theorem bidx_no {s : ByteArray} {i : Int} : bidx false s i = some 0 := rfl

theorem wrap_up {i : Nat} (h : i ≤ 281474976710656) : IntKind.wrap .i64 ((i : Int) + 1) = ((i + 1 : Nat) : Int) := by rw [wrap_id (by omega) (by omega)]; omega
theorem wrap_add {i j : Nat} (h : i ≤ 281474976710656) (h2 : j ≤ 281474976710656) : IntKind.wrap .i64 ((i : Int) + (j : Int)) = ((i + j : Nat) : Int) := by rw [wrap_id (by omega) (by omega)]; omega

theorem letter_eq (n : Nat) (b : UInt8) : m_lex_letter n ((UInt8.toNat b : Nat) : Int) = some (isL b) := by
  unfold m_lex_letter isL
  congr 1
  by_cases h1 : 97 ≤ b.toNat
  · rw [decide_eq_true (show ((UInt8.toNat b : Nat) : Int) ≥ 97 by omega), decide_eq_true h1]
    simp only [cond_true, Bool.true_and]
    by_cases h2 : b.toNat ≤ 122
    · rw [decide_eq_true (show ((UInt8.toNat b : Nat) : Int) ≤ 122 by omega), decide_eq_true h2]
    · rw [decide_eq_false (show ¬ ((UInt8.toNat b : Nat) : Int) ≤ 122 by omega), decide_eq_false h2]
  · rw [decide_eq_false (show ¬ ((UInt8.toNat b : Nat) : Int) ≥ 97 by omega), decide_eq_false h1]; rfl
theorem digit_eq (n : Nat) (b : UInt8) : m_lex_digit n ((UInt8.toNat b : Nat) : Int) = some (isD b) := by
  unfold m_lex_digit isD
  congr 1
  by_cases h1 : 48 ≤ b.toNat
  · rw [decide_eq_true (show ((UInt8.toNat b : Nat) : Int) ≥ 48 by omega), decide_eq_true h1]
    simp only [cond_true, Bool.true_and]
    by_cases h2 : b.toNat ≤ 57
    · rw [decide_eq_true (show ((UInt8.toNat b : Nat) : Int) ≤ 57 by omega), decide_eq_true h2]
    · rw [decide_eq_false (show ¬ ((UInt8.toNat b : Nat) : Int) ≤ 57 by omega), decide_eq_false h2]
  · rw [decide_eq_false (show ¬ ((UInt8.toNat b : Nat) : Int) ≥ 48 by omega), decide_eq_false h1]; rfl
theorem rletter_eq (n : Nat) (b : UInt8) : m_sutureref1_letter n ((UInt8.toNat b : Nat) : Int) = some (isL b) := letter_eq n b
theorem rdigit_eq (n : Nat) (b : UInt8) : m_sutureref1_digit n ((UInt8.toNat b : Nat) : Int) = some (isD b) := digit_eq n b
theorem blank_eq (n : Nat) (b : UInt8) : m_lex_Tokens_1 n ((UInt8.toNat b : Nat) : Int) = some (blank b) := by
  unfold m_lex_Tokens_1 blank
  rw [beq_byte b 32 32 rfl, beq_byte b 9 9 rfl, beq_byte b 10 10 rfl]
  cases (b == 32) <;> cases (b == 9) <;> rfl
theorem notlf_eq (n : Nat) (b : UInt8) : m_lex_Tokens_2 n ((UInt8.toNat b : Nat) : Int) = some (b != 10) := by
  unfold m_lex_Tokens_2
  simp only [bne, beq_byte b 10 10 rfl]
theorem ld_eq (n : Nat) (b : UInt8) : m_lex_word_1 n ((UInt8.toNat b : Nat) : Int) = some (isLD b) := by
  unfold m_lex_word_1 isLD
  rw [letter_eq]
  simp only [Option.bind_some]
  cases isL b with
  | true => rfl
  | false => simp only [Bool.not_false, cond_true, digit_eq, Option.bind_some, cond_false, Bool.false_or]

/-! scans -/

theorem scan {s : ByteArray} {f : UInt8 → Bool} {l : Nat → ByteArray × Int → Option Int}
    (h : ∀ (m i : Nat), i ≤ (L s).length → l (m + 1) (s, (i : Int)) = if ((L s)[i]?).any f = true then l m (s, ((i + 1 : Nat) : Int)) else some (i : Int)) :
    ∀ (m i : Nat), i ≤ (L s).length → (L s).length - i < m → l m (s, (i : Int)) = some ((i + (((L s).drop i).takeWhile f).length : Nat) : Int)
  | 0, i, _, hm => by omega
  | m + 1, i, hi, hm => by
    rw [h m i hi]
    by_cases hlt : i < (L s).length
    · rw [List.drop_eq_getElem_cons hlt, List.getElem?_eq_getElem hlt]
      simp only [Option.any_some]
      by_cases hf : f (L s)[i] = true
      · rw [if_pos hf, scan h m (i + 1) (by omega) (by omega), List.takeWhile_cons_of_pos hf]
        congr 2
        simp only [List.length_cons]; omega
      · rw [if_neg hf, List.takeWhile_cons_of_neg hf]
        rfl
    · rw [List.getElem?_eq_none (by omega), List.drop_eq_nil_of_le (by omega)]
      rfl

theorem scan_body {s : ByteArray} {f : UInt8 → Bool} {g : Int → Option Bool} (hg : ∀ b : UInt8, g ((UInt8.toNat b : Nat) : Int) = some (f b)) (hs : (L s).length ≤ 281474976710656) (k : ByteArray × Int → Option Int) {i : Nat} (hi : i ≤ (L s).length) :
    (Option.bind (bidx ((decide (((i : Nat) : Int) < ((ByteArray.size s : Nat) : Int)))) s ((i : Nat) : Int)) fun b0 =>
      Option.bind (bif (decide (((i : Nat) : Int) < ((ByteArray.size s : Nat) : Int))) then g ((UInt8.toNat b0 : Nat) : Int) else some false) fun r1 =>
      bif (bif (decide (((i : Nat) : Int) < ((ByteArray.size s : Nat) : Int))) then r1 else false) then (k (s, (IntKind.wrap .i64 (((i : Nat) : Int) + 1)))) else (some ((i : Nat) : Int))) =
    if ((L s)[i]?).any f = true then k (s, ((i + 1 : Nat) : Int)) else some (i : Int) := by
  by_cases hlt : i < (L s).length
  · have h1 : decide ((i : Int) < ((ByteArray.size s : Nat) : Int)) = true := by
      rw [decide_eq_true_eq, size_L]; omega
    rw [h1, bidx_at hlt, List.getElem?_eq_getElem hlt]
    simp only [Option.bind_some, cond_true, hg, Option.any_some, wrap_up (show i ≤ 281474976710656 by omega)]
    by_cases hf : f (L s)[i] = true
    · rw [if_pos hf, hf]; rfl
    · rw [if_neg hf, (Bool.not_eq_true _).mp hf]; rfl
  · have h1 : decide ((i : Int) < ((ByteArray.size s : Nat) : Int)) = false := by
      rw [decide_eq_false_iff_not, size_L]; omega
    rw [h1, List.getElem?_eq_none (by omega)]
    rfl

theorem run_blank (n : Nat) (s : ByteArray) (hs : (L s).length ≤ 281474976710656) (hn : (L s).length < n) : m_lex_run n s = some (((L s).takeWhile blank).length : Int) := by
  have := scan (l := l_lex_run_2 n) (f := blank) (s := s) (fun m i hi => scan_body (blank_eq n) hs (l_lex_run_2 n m) hi) n 0 (by omega) (by omega)
  unfold m_lex_run
  rw [show ((0 : Int)) = ((0 : Nat) : Int) from rfl, this]
  simp
theorem run_note (n : Nat) (s : ByteArray) (hs : (L s).length ≤ 281474976710656) (hn : (L s).length < n) : m_lex_run_v2 n s = some (((L s).takeWhile (· != 10)).length : Int) := by
  have := scan (l := l_lex_run_v2_2 n) (f := (· != 10)) (s := s) (fun m i hi => scan_body (notlf_eq n) hs (l_lex_run_v2_2 n m) hi) n 0 (by omega) (by omega)
  unfold m_lex_run_v2
  rw [show ((0 : Int)) = ((0 : Nat) : Int) from rfl, this]
  simp
theorem run_word (n : Nat) (s : ByteArray) (hs : (L s).length ≤ 281474976710656) (hn : (L s).length < n) : m_lex_run_v3 n s = some (((L s).takeWhile isLD).length : Int) := by
  have := scan (l := l_lex_run_v3_2 n) (f := isLD) (s := s) (fun m i hi => scan_body (ld_eq n) hs (l_lex_run_v3_2 n m) hi) n 0 (by omega) (by omega)
  unfold m_lex_run_v3
  rw [show ((0 : Int)) = ((0 : Nat) : Int) from rfl, this]
  simp
theorem run_digits (n : Nat) (s : ByteArray) (hs : (L s).length ≤ 281474976710656) (hn : (L s).length < n) : m_lex_run_v4 n s = some (((L s).takeWhile isD).length : Int) := by
  have := scan (l := l_lex_run_v4_2 n) (f := isD) (s := s) (fun m i hi => scan_body (digit_eq n) hs (l_lex_run_v4_2 n m) hi) n 0 (by omega) (by omega)
  unfold m_lex_run_v4
  rw [show ((0 : Int)) = ((0 : Nat) : Int) from rfl, this]
  simp

theorem bytes_eq (a b : ByteArray) : (ByteArray.toList a == ByteArray.toList b) = (L a == L b) := by
  have e : ∀ x : ByteArray, x.toList = L x := fun x => ByteArray.toList_eq x
  rw [e, e]

/-- How long a word is, that a text begins with. -/
def wordLen (r : List UInt8) : Nat := match r with
  | [] => 0
  | c :: _ => if isL c = true ∧ (r.takeWhile isLD).length ≤ 12 then (r.takeWhile isLD).length else 0

theorem word_eq (n : Nat) (s : ByteArray) (hs : (L s).length ≤ 281474976710656) (hn : (L s).length < n) : m_lex_word n s = some (wordLen (L s) : Int) := by
  unfold m_lex_word
  rw [bytes_eq]
  have e0 : L (⟨#[]⟩ : ByteArray) = [] := rfl
  rw [e0]
  cases h : L s with
  | nil =>
    simp only [BEq.rfl, Bool.not_true, bidx_no, Option.bind_some, cond_false, cond_true]
    rfl
  | cons c r =>
    have hne : (c :: r == ([] : List UInt8)) = false := rfl
    have hb : bidx true s 0 = some c := by
      have := bidx_at (s := s) (i := 0) (by rw [h]; simp)
      simpa [h] using this
    simp only [hne, Bool.not_false, hb, Option.bind_some, cond_true, letter_eq, cond_false]
    have hw := run_word n s hs hn
    rw [h] at hw
    cases hl : isL c with
    | false => simp [wordLen, hl]
    | true =>
      simp only [Bool.not_true, cond_false, hw, Option.bind_some]
      by_cases h12 : ((c :: r).takeWhile isLD).length ≤ 12
      · rw [decide_eq_false (by omega)]
        simp only [wordLen, hl, h12, and_self, if_true, cond_false]
      · rw [decide_eq_true (by omega)]
        simp only [wordLen, hl, h12, and_false, if_false, cond_true]
        rfl
end Go.Proofs.YtkolhagejiabhaaDoor.W
