/- Chapter 2, plain: the program's tokens are those that are said over lists of bytes. -/
import Derived.Test.YtkolhagejiabhaaDoorLD
namespace Go.Proofs.YtkolhagejiabhaaDoor.W
open Go Go.Eng Go.Eng.Fl
set_option linter.unusedVariables false
set_option linter.unusedSimpArgs false

/-- A byte's place. -/
def P (s : ByteArray) (q : Nat) : Nat × Nat := (F (pos ((L s).take q)).1, F (pos ((L s).take q)).2)
/-- A token, as the program holds it. -/
def encL (s : ByteArray) (t : Tok) : T := T.agg [(T.sc (.int .i64 t.kind)), (T.sc (.string (B t.text))), (T.sc (.int .i64 (t.num : Int))), (T.sc (.complex .f64 (P s t.pos).1 (P s t.pos).2))]

theorem sized_L (s : ByteArray) (l : List Tok) : sized 4 (l.map (encL s)) = true := by
  unfold sized
  rw [List.all_eq_true]
  intro y hy
  obtain ⟨t, _, rfl⟩ := List.mem_map.1 hy
  rfl

theorem of_P (n : Nat) (s : ByteArray) (q : Nat) (hs : (L s).length ≤ 281474976710656) (hq : q ≤ (L s).length) : m_place_Of n s (q : Int) = some (P s q) :=
  of_eq n s q (by rw [size_L]; exact hs) (by rw [size_L]; exact hq)

theorem ext_drop (s : ByteArray) (q : Nat) : s.extract q s.size = B ((L s).drop q) := by
  rw [ext_B, List.take_of_length_le (by rw [List.length_drop, size_L]; omega)]

theorem clip_eq (n : Nat) (s : ByteArray) (l : List Tok) : m_slices_Clip___lex_Token_lex_Token_ n (l.map (encL s)) = some (l.map (encL s)) := by
  unfold m_slices_Clip___lex_Token_lex_Token_
  rw [must_eq (by rw [sized_L]; simp), must_eq (by simp)]
  rw [Int.toNat_natCast, List.take_length]
  rfl

theorem index_neg (l : List UInt8) (c : UInt8) : decide (Lib.indexByte l c < 0) = !l.contains c := by
  induction l with
  | nil => rfl
  | cons b l ih =>
    have hge := Lib.indexByte_ge l c
    unfold Lib.indexByte
    rw [List.contains_cons]
    by_cases hb : (b == c) = true
    · rw [if_pos hb]
      have : (c == b) = true := by rw [beq_iff_eq] at hb ⊢; exact hb.symm
      rw [this]; rfl
    · rw [if_neg hb]
      have : (c == b) = false := by
        rw [beq_eq_false_iff_ne]; intro hh; apply hb; rw [beq_iff_eq]; exact hh.symm
      rw [this, Bool.false_or, ← ih]
      by_cases h1 : (Lib.indexByte l c == -1) = true
      · rw [if_pos h1]
        have : Lib.indexByte l c = -1 := by simpa using h1
        rw [this]
      · rw [if_neg h1]
        have : Lib.indexByte l c ≠ -1 := by simpa using h1
        rw [decide_eq_false (by omega), decide_eq_false (by omega)]

theorem sign_eq (n : Nat) (c : UInt8) : ∃ r, m_strings_IndexByte n (⟨#[61, 60, 43, 45, 42, 47, 37, 40, 41, 123, 125]⟩ : ByteArray) ((UInt8.toNat c : Nat) : Int) = some r ∧ decide (r < 0) = !signs.contains c := by
  refine ⟨_, rfl, ?_⟩
  have e : (((UInt8.toNat c : Nat) : Int)).toNat.toUInt8 = c := by
    rw [Int.toNat_natCast]
    exact UInt8.ofNat_toNat
  rw [e]
  exact index_neg _ c

theorem prefix_eq (n : Nat) (l : List UInt8) : m_strings_HasPrefix n (B l) (⟨#[61, 61]⟩ : ByteArray) = some (l.take 2 == [61, 61]) := by
  unfold m_strings_HasPrefix m_internal_stringslite_HasPrefix
  rw [bytes_eq]
  have e1 : L (⟨#[61, 61]⟩ : ByteArray) = [61, 61] := rfl
  have e2 : ((ByteArray.size (⟨#[61, 61]⟩ : ByteArray) : Nat) : Int) = 2 := rfl
  rw [e1, e2]
  have e3 : (B l).size = l.length := by rw [size_L, L_B]
  rw [e3]
  by_cases h : 2 ≤ l.length
  · rw [decide_eq_true (show ((l.length : Nat) : Int) ≥ 2 by omega)]
    rw [must_eq (by simp only [Bool.and_eq_true, decide_eq_true_eq]; exact ⟨⟨by decide, by decide⟩, trivial⟩)]
    simp only [cond_true, Option.bind_some]
    rw [ext_B, L_B, L_B]
    rfl
  · rw [decide_eq_false (show ¬ ((l.length : Nat) : Int) ≥ 2 by omega)]
    simp only [must, Bool.false_and, cond_false, Option.bind_some]
    congr 1
    symm
    rw [beq_eq_false_iff_ne]
    intro hh
    have := congrArg List.length hh
    rw [List.length_take] at this
    simp only [List.length_cons, List.length_nil] at this
    omega

def res3 (x : (List T) × (Nat × Nat) × Int × Int × ByteArray × Int × (Nat × Nat)) : List T × (Nat × Nat) × Int := (x.1, x.2.1, x.2.2.1)
def outL (s : ByteArray) : LR → List T × (Nat × Nat) × Int
  | .ok l => ((l ++ [(⟨4, [], 0, (L s).length⟩ : Tok)]).map (encL s), (0, 0), 0)
  | .bad q => ([], P s q, 2)

section
variable {s : ByteArray} {n : Nat}

theorem end_lab (m : Nat) {acc : List Tok} (ha : acc.length ≤ 6000) (hs : (L s).length ≤ 6000) :
    (j_lex_Tokens_0 n (m + 1) (Sum.inl (acc.map (encL s), 0, (⟨#[]⟩ : ByteArray), 0, P s (L s).length))).map res3 = some (outL s (.ok acc)) := by
  show (j_lex_Tokens_0_B1 n (j_lex_Tokens_0 n m) (acc.map (encL s), 0, (⟨#[]⟩ : ByteArray), 0, P s (L s).length)).map res3 = _
  unfold j_lex_Tokens_0_B1
  simp only
  rw [must_eq (by simp only [List.length_map, List.length_cons, List.length_nil, Bool.and_eq_true, decide_eq_true_eq]; exact ⟨rfl, by omega, rfl⟩)]
  have e : acc.map (encL s) ++ [(T.agg [(T.sc (.int .i64 4)), (T.sc (.string (⟨#[]⟩ : ByteArray))), (T.sc (.int .i64 0)), (T.sc (.complex .f64 (P s (L s).length).1 (P s (L s).length).2))])] = (acc ++ [(⟨4, [], 0, (L s).length⟩ : Tok)]).map (encL s) := by
    rw [List.map_append]; rfl
  rw [e, clip_eq]
  rfl

theorem none_lab (m : Nat) (k0 : Int) (t0 : ByteArray) (n0 : Int) (q : Nat) :
    (j_lex_Tokens_0 n (m + 1) (Sum.inr (Sum.inr (Sum.inr (Sum.inr (Sum.inl (k0, t0, n0, P s q))))))).map res3 = some (outL s (.bad q)) := rfl

/-- What is between. -/
def btw (s : ByteArray) (acc : List Tok) (p : Nat) (k0 : Int) (t0 : ByteArray) (n0 : Int) (pl : Nat × Nat) : (((List T) × Int × ByteArray × Int × (Nat × Nat)) ⊕ ((ByteArray × (List T) × Int × Int × ByteArray × Int × (Nat × Nat)) ⊕ ((ByteArray × (List T) × Int × Int × ByteArray × Int × (Nat × Nat)) ⊕ ((ByteArray × (List T) × Int × Int × ByteArray × Int × (Nat × Nat)) ⊕ ((Int × ByteArray × Int × (Nat × Nat)) ⊕ ((ByteArray × (List T) × Int × Int × Int × ByteArray × Int × (Nat × Nat)) ⊕ ByteArray × (List T) × Int × Int × ByteArray × Int × (Nat × Nat))))))) :=
  Sum.inr (Sum.inr (Sum.inr (Sum.inr (Sum.inr (Sum.inr (s, acc.map (encL s), (p : Int), k0, t0, n0, pl))))))

theorem token_lab (m : Nat) {acc : List Tok} (ha : acc.length ≤ 6000) (hs : (L s).length ≤ 6000) {q : Nat} (t : Tok) (ht : t.pos = q) (hl : 1 ≤ t.text.length) (hle : t.text.length ≤ (L s).length - q) (hq : q ≤ (L s).length) (htx : t.text = ((L s).drop q).take t.text.length) (t0 : ByteArray) :
    j_lex_Tokens_0 n (m + 1) (Sum.inr (Sum.inr (Sum.inr (Sum.inr (Sum.inr (Sum.inl (s, acc.map (encL s), (q : Int), (t.text.length : Int), t.kind, t0, (t.num : Int), P s q))))))) =
      j_lex_Tokens_0 n m (btw s (acc ++ [t]) (q + t.text.length) t.kind (B t.text) (t.num : Int) (P s q)) := by
  show j_lex_Tokens_0_B6 n (j_lex_Tokens_0 n m) (s, acc.map (encL s), (q : Int), (t.text.length : Int), t.kind, t0, (t.num : Int), P s q) = _
  unfold j_lex_Tokens_0_B6
  simp only
  rw [beq_eq_false_iff_ne.2 (show ((t.text.length : Nat) : Int) ≠ 0 by omega)]
  simp only [cond_false]
  rw [wrap_add (show q ≤ 281474976710656 by omega) (by omega)]
  rw [must_eq (by rw [size_L]; simp only [Bool.and_eq_true, decide_eq_true_eq]; omega)]
  rw [must_eq (by simp only [List.length_map, List.length_cons, List.length_nil, Bool.and_eq_true, decide_eq_true_eq]; exact ⟨rfl, by omega, rfl⟩)]
  simp only [Int.toNat_natCast]
  rw [ext_B, show q + t.text.length - q = t.text.length by omega, ← htx]
  unfold btw
  rw [List.map_append]
  simp only [List.map_cons, List.map_nil, encL, ht]

theorem prog_loop (hs : (L s).length ≤ 6000) (hn : 6001 < n) : ∀ (k p : Nat) (acc : List Tok) (m : Nat), (L s).length - p ≤ k → p ≤ (L s).length → acc.length ≤ p → 3 * k + 3 < m → ∀ (k0 : Int) (t0 : ByteArray) (n0 : Int) (pl : Nat × Nat),
    (j_lex_Tokens_0 n m (btw s acc p k0 t0 n0 pl)).map res3 = some (outL s (lexR ((L s).drop p) p acc)) := by
  intro k
  induction k using Nat.strongRecOn with
  | ind k ih =>
  intro p acc m hk hp ha hm k0 t0 n0 pl
  obtain ⟨m, rfl⟩ : ∃ m', m = m' + 1 := ⟨m - 1, by omega⟩
  show (j_lex_Tokens_0_B0 n (j_lex_Tokens_0 n m) (s, acc.map (encL s), (p : Int), k0, t0, n0, pl)).map res3 = _
  unfold j_lex_Tokens_0_B0
  simp only
  rw [must_eq (by rw [size_L]; simp only [Bool.and_eq_true, decide_eq_true_eq]; omega)]
  simp only [Int.toNat_natCast]
  rw [ext_drop, run_blank n _ (by rw [L_B, List.length_drop]; omega) (by rw [L_B, List.length_drop]; omega), L_B]
  simp only [Option.bind_some]
  rw [lexR_blanks]
  have hb1 := (List.takeWhile_prefix blank (l := (L s).drop p)).length_le
  have hb2 := drop_takeWhile blank ((L s).drop p)
  rw [List.length_drop] at hb1
  rw [List.drop_drop] at hb2
  rw [wrap_add (show p ≤ 281474976710656 by omega) (by omega)]
  have hhead : ∀ (c : UInt8) (r : List UInt8), ((L s).drop p).dropWhile blank = c :: r → blank c = false := by
    intro c r h
    have := List.head?_dropWhile_not blank ((L s).drop p)
    rw [h] at this
    simpa using this
  rw [hb2] at hhead ⊢
  generalize hq : p + (((L s).drop p).takeWhile blank).length = q at *
  have hqL : q ≤ (L s).length := by omega
  have hqp : p ≤ q := by omega
  rw [of_P n s q (by omega) hqL]
  simp only [Option.bind_some, size_L]
  by_cases hend : q = (L s).length
  · rw [beq_iff_eq.2 (show ((q : Nat) : Int) = ((L s).length : Int) by omega)]
    simp only [cond_true]
    obtain ⟨m, rfl⟩ : ∃ m', m = m' + 1 := ⟨m - 1, by omega⟩
    rw [hend, List.drop_length, lexR_nil]
    exact end_lab m (by omega) hs
  · rw [beq_eq_false_iff_ne.2 (show ((q : Nat) : Int) ≠ ((L s).length : Int) by omega)]
    have hlt : q < (L s).length := by omega
    have hdrop := List.drop_eq_getElem_cons hlt
    have hb := hhead _ _ hdrop
    simp only [cond_false, bidx_at hlt, Option.bind_some, beq_byte (L s)[q] 35 35 rfl]
    by_cases h35 : (L s)[q] = 35
    · -- a note
      rw [beq_iff_eq.2 h35]
      simp only [cond_true]
      obtain ⟨m, rfl⟩ : ∃ m', m = m' + 1 := ⟨m - 1, by omega⟩
      show (j_lex_Tokens_0_B2 n (j_lex_Tokens_0 n m) (s, acc.map (encL s), (q : Int), 0, (⟨#[]⟩ : ByteArray), 0, P s q)).map res3 = _
      unfold j_lex_Tokens_0_B2
      simp only
      rw [must_eq (by rw [size_L]; simp only [Bool.and_eq_true, decide_eq_true_eq]; omega)]
      simp only [Int.toNat_natCast]
      rw [ext_drop, run_note n _ (by rw [L_B, List.length_drop]; omega) (by rw [L_B, List.length_drop]; omega), L_B]
      simp only [Option.bind_some]
      have htw : (((L s).drop q).takeWhile (· != 10)) = 35 :: (((L s).drop (q + 1)).takeWhile (· != 10)) := by
        rw [hdrop, h35, List.takeWhile_cons_of_pos (by decide)]
      have hlen := (List.takeWhile_prefix (· != 10) (l := (L s).drop (q + 1))).length_le
      rw [List.length_drop] at hlen
      rw [htw, List.length_cons, wrap_add (show q ≤ 281474976710656 by omega) (by omega)]
      have := ih (k - 1) (by omega) (q + ((((L s).drop (q + 1)).takeWhile (· != 10)).length + 1)) acc m (by omega) (by omega) (by omega) (by omega) 0 (⟨#[]⟩ : ByteArray) 0 (P s q)
      unfold btw at this
      rw [this, hdrop, h35, lexR_note]
      congr 3
      · rw [drop_takeWhile, List.drop_drop]
        congr 1; omega
      · omega
    · rw [beq_eq_false_iff_ne.2 h35]
      simp only [cond_false, letter_eq, Option.bind_some]
      -- what is behind a token
      have after : ∀ (t : Tok), tokAt ((L s).drop q) q = some t → ∀ (m : Nat), 3 * k < m → ∀ (t0 : ByteArray), (j_lex_Tokens_0 n m (btw s (acc ++ [t]) (q + t.text.length) t.kind (B t.text) (t.num : Int) (P s q))).map res3 = some (outL s (lexR ((L s).drop q) q acc)) := by
        intro t ht m hm t0
        obtain ⟨g1, g2, g3, g4⟩ := tokAt_pos ht
        rw [List.length_drop] at g3
        rw [ih (k - 1) (by omega) (q + t.text.length) (acc ++ [t]) m (by omega) (by omega) (by rw [List.length_append]; simp only [List.length_cons, List.length_nil]; omega) (by omega)]
        rw [hdrop] at ht ⊢
        rw [lexR_tok hb h35 ht]
        congr 3
        rw [List.drop_drop]
        congr 1; omega
      have bad : tokAt ((L s).drop q) q = none → lexR ((L s).drop q) q acc = .bad q := by
        intro ht
        rw [hdrop] at ht ⊢
        exact lexR_bad hb h35 ht
      cases hl : isL (L s)[q] with
      | true =>
        -- a word
        simp only [cond_true]
        obtain ⟨m, rfl⟩ : ∃ m', m = m' + 2 := ⟨m - 2, by omega⟩
        show (j_lex_Tokens_0_B3 n (j_lex_Tokens_0 n (m + 1)) (s, acc.map (encL s), (q : Int), 0, (⟨#[]⟩ : ByteArray), 0, P s q)).map res3 = _
        unfold j_lex_Tokens_0_B3
        simp only
        rw [must_eq (by rw [size_L]; simp only [Bool.and_eq_true, decide_eq_true_eq]; omega)]
        simp only [Int.toNat_natCast]
        rw [ext_drop, word_eq n _ (by rw [L_B, List.length_drop]; omega) (by rw [L_B, List.length_drop]; omega), L_B]
        simp only [Option.bind_some]
        have htok : tokAt ((L s).drop q) q = if (((L s).drop q).takeWhile isLD).length ≤ 12 then some ⟨1, ((L s).drop q).takeWhile isLD, 0, q⟩ else none := by
          conv => lhs; rw [hdrop]
          simp only [tokAt, hl, if_true]
          rw [← hdrop]
        have hwl : wordLen ((L s).drop q) = if (((L s).drop q).takeWhile isLD).length ≤ 12 then (((L s).drop q).takeWhile isLD).length else 0 := by
          conv => lhs; rw [hdrop]
          simp only [wordLen, hl, true_and]
          rw [← hdrop]
        by_cases h12 : (((L s).drop q).takeWhile isLD).length ≤ 12
        · rw [if_pos h12] at htok hwl
          obtain ⟨g1, g2, g3, g4⟩ := tokAt_pos htok
          rw [List.length_drop] at g3
          rw [hwl]
          have := token_lab (n := n) m (acc := acc) (by omega) hs _ g1 g2 g3 hqL g4 (⟨#[]⟩ : ByteArray)
          simp only [show (((0 : Nat) : Nat) : Int) = 0 from rfl] at this
          rw [this]
          exact after _ htok m (by omega) ⟨#[]⟩
        · rw [if_neg h12] at htok hwl
          rw [hwl]
          show (j_lex_Tokens_0_B6 n (j_lex_Tokens_0 n m) (s, acc.map (encL s), (q : Int), ((0 : Nat) : Int), 1, (⟨#[]⟩ : ByteArray), 0, P s q)).map res3 = _
          rw [bad htok]
          obtain ⟨m, rfl⟩ : ∃ m', m = m' + 1 := ⟨m - 1, by omega⟩
          exact none_lab (n := n) m _ _ _ q
      | false =>
        simp only [cond_false, digit_eq, Option.bind_some]
        cases hd : isD (L s)[q] with
        | true =>
          -- a number
          simp only [cond_true]
          obtain ⟨m, rfl⟩ : ∃ m', m = m' + 2 := ⟨m - 2, by omega⟩
          show (j_lex_Tokens_0_B4 n (j_lex_Tokens_0 n (m + 1)) (s, acc.map (encL s), (q : Int), 0, (⟨#[]⟩ : ByteArray), 0, P s q)).map res3 = _
          unfold j_lex_Tokens_0_B4
          simp only
          rw [must_eq (by rw [size_L]; simp only [Bool.and_eq_true, decide_eq_true_eq]; omega)]
          simp only [Int.toNat_natCast]
          rw [ext_drop, run_digits n _ (by rw [L_B, List.length_drop]; omega) (by rw [L_B, List.length_drop]; omega), L_B]
          simp only [Option.bind_some]
          have hlen := (List.takeWhile_prefix isD (l := (L s).drop q)).length_le
          rw [List.length_drop] at hlen
          have hpos : 1 ≤ (((L s).drop q).takeWhile isD).length := by
            rw [hdrop, List.takeWhile_cons_of_pos hd, List.length_cons]; omega
          rw [wrap_add (show q ≤ 281474976710656 by omega) (by omega)]
          rw [must_eq (by rw [size_L]; simp only [Bool.and_eq_true, decide_eq_true_eq]; omega)]
          simp only [Int.toNat_natCast]
          have hext : s.extract q (q + (((L s).drop q).takeWhile isD).length) = B (((L s).drop q).takeWhile isD) := by
            rw [ext_B, show q + (((L s).drop q).takeWhile isD).length - q = (((L s).drop q).takeWhile isD).length by omega, take_takeWhile]
          rw [hext]
          have htok : tokAt ((L s).drop q) q = if numOk (((L s).drop q).takeWhile isD) then some ⟨2, ((L s).drop q).takeWhile isD, val (((L s).drop q).takeWhile isD), q⟩ else none := by
            conv => lhs; rw [hdrop]
            simp only [tokAt, hl, hd, if_true, Bool.false_eq_true, if_false]
            rw [← hdrop]
          generalize hw : ((L s).drop q).takeWhile isD = w at *
          have hall : ∀ c ∈ w, isD c = true := fun c hc => List.all_eq_true.1 (by rw [← hw]; exact List.all_takeWhile) c hc
          have hwne : w ≠ [] := fun h => by rw [h] at hpos; simp at hpos
          obtain ⟨v, b, h1, h2, h3, h4⟩ := there_back (a := B w) (by show L (B w) ≠ []; rw [L_B]; exact hwne) (by show ∀ c ∈ L (B w), _; rw [L_B]; exact hall) (by rw [size_L, L_B]; omega)
          have h3' : (L b == w) = (plainNum w && decide (val w < 9223372036854775808)) := by
            have e : (B w).data.toList = w := L_B w
            rw [e] at h3; exact h3
          have h4' : val w < 9223372036854775808 → v = val w := by
            have e : (B w).data.toList = w := L_B w
            rw [e] at h4; exact h4
          have hA : m_strconv_Atoi n (B w) = some (v : Int) := h1
          have hI : m_strconv_Itoa n (v : Int) = some b := h2
          simp only [hA, hI, Option.bind_some, bytes_eq, L_B, h3']
          rw [must_eq (by rw [size_L]; simp only [Bool.and_eq_true, decide_eq_true_eq]; omega)]
          rw [beq_eq_false_iff_ne.2 (show ((w.length : Nat) : Int) ≠ 0 by omega)]
          cases hok : numOk w with
          | false =>
            have hok' : (plainNum w && decide (val w < 9223372036854775808)) = false := hok
            rw [hok] at htok
            simp only [Bool.false_eq_true, if_false] at htok
            rw [hok', bad htok]
            exact none_lab (n := n) m _ _ _ q
          | true =>
            have hok' : (plainNum w && decide (val w < 9223372036854775808)) = true := hok
            rw [hok] at htok
            simp only [if_true] at htok
            rw [hok']
            have hv : v = val w := h4' (by simp only [Bool.and_eq_true, decide_eq_true_eq] at hok'; exact hok'.2)
            simp only [Bool.not_true, cond_false]
            rw [must_eq (by rw [size_L]; simp only [Bool.and_eq_true, decide_eq_true_eq]; omega)]
            rw [must_eq (by simp only [List.length_map, List.length_cons, List.length_nil, Bool.and_eq_true, decide_eq_true_eq]; exact ⟨rfl, by omega, rfl⟩)]
            have := after _ htok (m + 1) (by omega) ⟨#[]⟩
            rw [← this]
            unfold btw
            rw [List.map_append, hv]
            rfl
        | false =>
          -- a sign
          simp only [cond_false]
          rw [must_eq (by simp only [Bool.and_eq_true, decide_eq_true_eq]; omega)]
          simp only [Int.toNat_natCast]
          have hex : s.extract q (L s).length = B ((L s).drop q) := by rw [← size_L]; exact ext_drop s q
          rw [hex, prefix_eq]
          obtain ⟨r, hr, hr2⟩ := sign_eq n (L s)[q]
          simp only [Option.bind_some, hr, hr2]
          have htok : tokAt ((L s).drop q) q = if signs.contains (L s)[q] then (if (L s)[q] = 61 ∧ ((L s).drop (q + 1)).head? = some 61 then some ⟨3, [61, 61], 0, q⟩ else some ⟨3, [(L s)[q]], 0, q⟩) else none := by
            conv => lhs; rw [hdrop]
            simp only [tokAt, hl, hd, Bool.false_eq_true, if_false]
          have h2 : (((L s).drop q).take 2 == [61, 61]) = decide ((L s)[q] = 61 ∧ ((L s).drop (q + 1)).head? = some 61) := by
            rw [hdrop]
            cases hr1 : (L s).drop (q + 1) with
            | nil =>
              rw [decide_eq_false (by simp), beq_eq_false_iff_ne]
              intro hh; simp at hh
            | cons d r2 =>
              apply Bool.eq_iff_iff.2
              rw [beq_iff_eq, decide_eq_true_eq]
              simp only [List.take_succ_cons, List.take_zero, List.cons.injEq, and_true, List.head?_cons, Option.some.injEq]
          rw [h2]
          obtain ⟨m, rfl⟩ : ∃ m', m = m' + 2 := ⟨m - 2, by omega⟩
          cases hc : signs.contains (L s)[q] with
          | false =>
            rw [hc] at htok
            simp only [Bool.false_eq_true, if_false] at htok
            rw [bad htok]
            by_cases hq2 : (L s)[q] = 61 ∧ ((L s).drop (q + 1)).head? = some 61
            · rw [decide_eq_true hq2]; exact none_lab (n := n) (m + 1) _ _ _ q
            · rw [decide_eq_false hq2]; exact none_lab (n := n) (m + 1) _ _ _ q
          | true =>
            rw [hc] at htok
            simp only [if_true] at htok
            by_cases hq2 : (L s)[q] = 61 ∧ ((L s).drop (q + 1)).head? = some 61
            · rw [if_pos hq2] at htok
              rw [decide_eq_true hq2]
              obtain ⟨g1, g2, g3, g4⟩ := tokAt_pos htok
              rw [List.length_drop] at g3
              have := token_lab (n := n) (m + 1) (acc := acc) (by omega) hs _ g1 g2 g3 hqL g4 (⟨#[]⟩ : ByteArray)
              have h9 := after _ htok (m + 1) (by omega) ⟨#[]⟩
              rw [← h9, ← this]
              rfl
            · rw [if_neg hq2] at htok
              rw [decide_eq_false hq2]
              obtain ⟨g1, g2, g3, g4⟩ := tokAt_pos htok
              rw [List.length_drop] at g3
              have := token_lab (n := n) (m + 1) (acc := acc) (by omega) hs _ g1 g2 g3 hqL g4 (⟨#[]⟩ : ByteArray)
              have h9 := after _ htok (m + 1) (by omega) ⟨#[]⟩
              rw [← h9, ← this]
              rfl
end
end Go.Proofs.YtkolhagejiabhaaDoor.W
