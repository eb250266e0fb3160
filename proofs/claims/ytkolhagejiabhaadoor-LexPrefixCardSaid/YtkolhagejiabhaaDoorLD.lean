/- Chapter 2, plain: the document's tokens, and the program's, are those that are said over lists of bytes. -/
import Derived.Test.YtkolhagejiabhaaDoorLC
namespace Go.Proofs.YtkolhagejiabhaaDoor.W
open Go Go.Eng Go.Eng.Fl
set_option linter.unusedVariables false
set_option linter.unusedSimpArgs false

/-- A token, as the document's functions hold it. -/
def encR (t : Tok) : T := T.agg [(T.sc (.int .i64 t.kind)), (T.sc (.string (B t.text))), (T.sc (.int .i64 (t.num : Int))), (T.sc (.int .i64 (t.pos : Int)))]

theorem tokAt_pos {r : List UInt8} {p : Nat} {t : Tok} (h : tokAt r p = some t) : t.pos = p ∧ 1 ≤ t.text.length ∧ t.text.length ≤ r.length ∧ t.text = r.take t.text.length := by
  have hpre : ∀ (f : UInt8 → Bool) (c : UInt8) (r' : List UInt8), f c = true → 1 ≤ ((c :: r').takeWhile f).length ∧ ((c :: r').takeWhile f).length ≤ (c :: r').length := by
    intro f c r' hf
    refine ⟨by rw [List.takeWhile_cons_of_pos hf]; simp, (List.takeWhile_prefix f).length_le⟩
  unfold tokAt at h
  cases r with
  | nil => cases h
  | cons c r' =>
    simp only at h
    split at h
    · rename_i hl
      split at h
      · simp only [Option.some.injEq] at h
        subst h
        have := hpre isLD c r' (isLD_L hl)
        exact ⟨rfl, this.1, this.2, (take_takeWhile _ _).symm⟩
      · cases h
    · split at h
      · rename_i hd
        split at h
        · simp only [Option.some.injEq] at h
          subst h
          have := hpre isD c r' hd
          exact ⟨rfl, this.1, this.2, (take_takeWhile _ _).symm⟩
        · cases h
      · split at h
        · split at h
          · rename_i hq
            simp only [Option.some.injEq] at h
            subst h
            obtain ⟨rfl, h2⟩ := hq
            cases r' with
            | nil => simp at h2
            | cons d r2 => simp at h2; subst h2; exact ⟨rfl, by simp, by simp, rfl⟩
          · simp only [Option.some.injEq] at h
            subst h
            exact ⟨rfl, by simp, by simp, rfl⟩
        · cases h

theorem lexR_acc : ∀ (k : Nat) (r : List UInt8) (p : Nat) (acc : List Tok), r.length ≤ k → lexR r p acc = match lexR r p [] with
    | .ok l => .ok (acc ++ l)
    | .bad q => .bad q := by
  intro k
  induction k with
  | zero =>
    intro r p acc hr
    have : r = [] := List.length_eq_zero_iff.1 (by omega)
    subst this
    rw [lexR_nil, lexR_nil]; simp
  | succ k ih =>
    intro r p acc hr
    cases r with
    | nil => rw [lexR_nil, lexR_nil]; simp
    | cons c r =>
      simp only [List.length_cons] at hr
      cases hb : blank c with
      | true => rw [lexR_blank hb, lexR_blank hb, ih r _ acc (by omega)]
      | false =>
        by_cases h35 : c = 35
        · subst h35
          have := dropWhile_le (· != 10) r
          rw [lexR_note, lexR_note, ih _ _ acc (by omega)]
        · cases ht : tokAt (c :: r) p with
          | none => rw [lexR_bad hb h35 ht, lexR_bad hb h35 ht]
          | some t =>
            rw [lexR_tok hb h35 ht, lexR_tok hb h35 ht, ih _ _ (acc ++ [t]) (by rw [List.length_drop]; omega), ih _ _ ([] ++ [t]) (by rw [List.length_drop]; omega)]
            cases lexR (r.drop (t.text.length - 1)) (p + t.text.length) [] with
            | ok l => simp
            | bad q => rfl

/-- How many tokens there are. -/
theorem lexR_len : ∀ (k : Nat) (r : List UInt8) (p : Nat) (acc l : List Tok), r.length ≤ k → lexR r p acc = .ok l → l.length ≤ acc.length + r.length := by
  intro k
  induction k with
  | zero =>
    intro r p acc l hr h
    have : r = [] := List.length_eq_zero_iff.1 (by omega)
    subst this
    rw [lexR_nil] at h; cases h; simp
  | succ k ih =>
    intro r p acc l hr h
    cases r with
    | nil => rw [lexR_nil] at h; cases h; simp
    | cons c r =>
      simp only [List.length_cons] at hr ⊢
      cases hb : blank c with
      | true => rw [lexR_blank hb] at h; have := ih r _ acc l (by omega) h; omega
      | false =>
        by_cases h35 : c = 35
        · subst h35
          have h0 := dropWhile_le (· != 10) r
          rw [lexR_note] at h
          have := ih _ _ acc l (by omega) h
          omega
        · cases ht : tokAt (c :: r) p with
          | none => rw [lexR_bad hb h35 ht] at h; cases h
          | some t =>
            rw [lexR_tok hb h35 ht] at h
            have := ih _ _ (acc ++ [t]) l (by rw [List.length_drop]; omega) h
            rw [List.length_append, List.length_drop] at this
            simp only [List.length_cons, List.length_nil] at this
            omega

theorem sized4_R (l : List Tok) (x : Tok) : sized 4 [encR x] = true := rfl

section
variable {s : ByteArray} {n : Nat}

theorem note_body (hs : (L s).length ≤ 6000) (k : ByteArray × (List T) × Int → Option (ByteArray × (List T) × Int)) {i : Nat} (hi : i ≤ (L s).length) (a : List T) :
    l_sutureref1_Tokens_10_B n k (s, a, (i : Int)) = if ((L s)[i]?).any (· != 10) = true then k (s, a, ((i + 1 : Nat) : Int)) else some (s, a, (i : Int)) := by
  unfold l_sutureref1_Tokens_10_B
  simp only
  by_cases hlt : i < (L s).length
  · have h1 : decide ((i : Int) < ((ByteArray.size s : Nat) : Int)) = true := by rw [decide_eq_true_eq, size_L]; omega
    simp only [h1, bidx_at hlt, List.getElem?_eq_getElem hlt, Option.bind_some, cond_true, Option.any_some, wrap_up (show i ≤ 281474976710656 by omega), bne, beq_byte (L s)[i] 10 10 rfl]
    cases ((L s)[i] == 10) <;> rfl
  · have h1 : decide ((i : Int) < ((ByteArray.size s : Nat) : Int)) = false := by rw [decide_eq_false_iff_not, size_L]; omega
    simp only [h1, bidx_no, Option.bind_some, cond_false]
    rw [List.getElem?_eq_none (by omega)]
    rfl

theorem note_eq (hs : (L s).length ≤ 6000) (hn : 6001 < n) {i : Nat} (hi : i ≤ (L s).length) (a : List T) :
    l_sutureref1_Tokens_10 n n (s, a, (i : Int)) = some (s, a, ((i + (((L s).drop i).takeWhile (· != 10)).length : Nat) : Int)) :=
  scanG (l := l_sutureref1_Tokens_10 n) (fun i => (s, a, ((i : Nat) : Int))) (fun i => (s, a, ((i : Nat) : Int))) (fun m i hi => note_body hs (l_sutureref1_Tokens_10 n m) hi a) n i hi (by omega)

def outR (s : ByteArray) : LR → Option ((((List T) × Int × Int) ⊕ (List T) × Int))
  | .ok l => some (.inr (l.map encR, ((L s).length : Int)))
  | .bad q => some (.inl ([], (q : Int), 2))

theorem tokens_loop (hs : (L s).length ≤ 6000) (hn : 6001 < n) : ∀ (m p : Nat) (acc : List Tok), p ≤ (L s).length → (L s).length - p < m → acc.length ≤ p →
    l_sutureref1_Tokens_5 n m (s, acc.map encR, (p : Int)) = outR s (lexR ((L s).drop p) p acc)
  | 0, p, acc, _, hm, _ => by omega
  | m + 1, p, acc, hp, hm, ha => by
    rw [l_sutureref1_Tokens_5]
    unfold l_sutureref1_Tokens_5_B
    simp only
    by_cases hlt : p < (L s).length
    · have h1 : decide ((p : Int) < ((ByteArray.size s : Nat) : Int)) = true := by rw [decide_eq_true_eq, size_L]; omega
      have hdrop := List.drop_eq_getElem_cons hlt
      have hbl : (bif (bif ((((UInt8.toNat (L s)[p] : Nat) : Int) : Int) == 32) then true else ((((UInt8.toNat (L s)[p] : Nat) : Int) : Int) == 9)) then true else ((((UInt8.toNat (L s)[p] : Nat) : Int) : Int) == 10)) = blank (L s)[p] := by
        have := blank_eq 0 (L s)[p]
        unfold m_lex_Tokens_1 at this
        exact Option.some.inj this
      simp only [h1, cond_true, bidx_at hlt, Option.bind_some, hbl]
      cases hb : blank (L s)[p] with
      | true =>
        simp only [cond_true]
        rw [wrap_up (show p ≤ 281474976710656 by omega), tokens_loop hs hn m (p + 1) acc (by omega) (by omega) (by omega), hdrop, lexR_blank hb]
      | false =>
        simp only [cond_false, beq_byte (L s)[p] 35 35 rfl]
        by_cases h35 : (L s)[p] = 35
        · rw [beq_iff_eq.2 h35]
          simp only [cond_true]
          rw [note_eq hs hn hp]
          simp only [Option.bind_some]
          have htw : (((L s).drop p).takeWhile (· != 10)) = 35 :: (((L s).drop (p + 1)).takeWhile (· != 10)) := by
            rw [hdrop, h35, List.takeWhile_cons_of_pos (by decide)]
          have hlen := (List.takeWhile_prefix (· != 10) (l := (L s).drop (p + 1))).length_le
          rw [List.length_drop] at hlen
          rw [htw, List.length_cons, tokens_loop hs hn m _ acc (by omega) (by omega) (by omega), hdrop, h35, lexR_note]
          congr 2
          · rw [drop_takeWhile, List.drop_drop]
            congr 1; omega
          · omega
        · rw [beq_eq_false_iff_ne.2 h35]
          simp only [cond_false]
          rw [one_eq hlt hs hn]
          simp only [Option.bind_some]
          cases ht : tokAt ((L s).drop p) p with
          | none =>
            simp only [oneR, BEq.rfl, cond_true]
            rw [hdrop] at ht ⊢
            rw [lexR_bad hb h35 ht]
            rfl
          | some t =>
            obtain ⟨h2, h3, h4, h5⟩ := tokAt_pos ht
            rw [List.length_drop] at h4
            simp only [oneR]
            rw [beq_eq_false_iff_ne.2 (show ((t.text.length : Nat) : Int) ≠ 0 by omega)]
            simp only [cond_false]
            rw [must_eq (by simp only [List.length_map, List.length_cons, List.length_nil, Bool.and_eq_true, decide_eq_true_eq]; exact ⟨rfl, by omega, rfl⟩)]
            rw [wrap_add (show p ≤ 281474976710656 by omega) (by omega)]
            have e : acc.map encR ++ [T.agg [(T.sc (.int .i64 t.kind)), (T.sc (.string (B t.text))), (T.sc (.int .i64 (t.num : Int))), (T.sc (.int .i64 (p : Int)))]] = (acc ++ [t]).map encR := by
              rw [List.map_append]; simp only [List.map_cons, List.map_nil, encR, h2]
            rw [e, tokens_loop hs hn m _ (acc ++ [t]) (by omega) (by omega) (by rw [List.length_append]; simp only [List.length_cons, List.length_nil]; omega)]
            rw [hdrop] at ht ⊢
            rw [lexR_tok hb h35 ht]
            congr 2
            rw [List.drop_drop]
            congr 1; omega
    · have h1 : decide ((p : Int) < ((ByteArray.size s : Nat) : Int)) = false := by rw [decide_eq_false_iff_not, size_L]; omega
      simp only [h1, cond_false]
      rw [List.drop_eq_nil_of_le (by omega), lexR_nil]
      have : p = (L s).length := by omega
      subst this
      rfl

/-- What the document's Tokens comes to. -/
def toksR (s : ByteArray) : List T × Int × Int :=
  if 6000 < (L s).length then ([], 6000, 2) else match lexR (L s) 0 [] with
  | .ok l => ((l ++ [(⟨4, [], 0, (L s).length⟩ : Tok)]).map encR, 0, 0)
  | .bad q => ([], (q : Int), 2)

theorem tokensR_eq (hn : 6001 < n) : m_sutureref1_Tokens n s = some (toksR s) := by
  unfold m_sutureref1_Tokens toksR
  by_cases h : 6000 < (L s).length
  · rw [decide_eq_true (show ((ByteArray.size s : Nat) : Int) > 6000 by rw [size_L]; omega), if_pos h]
    rfl
  · rw [decide_eq_false (show ¬ ((ByteArray.size s : Nat) : Int) > 6000 by rw [size_L]; omega), if_neg h]
    have hl := tokens_loop (s := s) (n := n) (by omega) hn n 0 [] (by omega) (by omega) (by simp)
    rw [List.drop_zero, show (((0 : Nat) : Nat) : Int) = 0 from rfl, List.map_nil] at hl
    simp only [cond_false, hl]
    cases hr : lexR (L s) 0 [] with
    | bad q => rfl
    | ok l =>
      have := lexR_len _ (L s) 0 [] l (Nat.le_refl _) hr
      simp only [List.length_nil] at this
      simp only [outR, Option.bind_some, Sum.elim_inr]
      rw [must_eq (by simp only [List.length_map, List.length_cons, List.length_nil, Bool.and_eq_true, decide_eq_true_eq]; exact ⟨rfl, by omega, rfl⟩)]
      rw [List.map_append]
      rfl
end
end Go.Proofs.YtkolhagejiabhaaDoor.W
