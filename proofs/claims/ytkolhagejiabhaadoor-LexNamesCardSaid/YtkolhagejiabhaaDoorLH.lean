/- Chapter 2, plain: a text is a name just if it is one word, and no keyword. -/
import Derived.Test.YtkolhagejiabhaaDoorLG
namespace Go.Proofs.YtkolhagejiabhaaDoor.W
open Go Go.Eng Go.Eng.Fl
set_option linter.unusedVariables false
set_option linter.unusedSimpArgs false

theorem lexR_mem : ∀ (k : Nat) (r : List UInt8) (p : Nat) (acc l : List Tok), r.length ≤ k → lexR r p acc = .ok l → ∀ t ∈ l, t ∈ acc ∨ ∃ r', r' <:+ r ∧ tokAt r' t.pos = some t := by
  intro k
  induction k with
  | zero =>
    intro r p acc l hr h
    have : r = [] := List.length_eq_zero_iff.1 (by omega)
    subst this
    rw [lexR_nil] at h; cases h; exact fun t ht => .inl ht
  | succ k ih =>
    intro r p acc l hr h
    cases r with
    | nil => rw [lexR_nil] at h; cases h; exact fun t ht => .inl ht
    | cons c r =>
      simp only [List.length_cons] at hr
      have more : ∀ (r2 : List UInt8) (q : Nat) (acc2 : List Tok), r2 <:+ c :: r → lexR r2 q acc2 = .ok l → r2.length ≤ k → ∀ t ∈ l, t ∈ acc2 ∨ ∃ r', r' <:+ c :: r ∧ tokAt r' t.pos = some t := by
        intro r2 q acc2 hs h2 hl t ht
        rcases ih r2 q acc2 l hl h2 t ht with h3 | ⟨r', h3, h4⟩
        · exact .inl h3
        · exact .inr ⟨r', h3.trans hs, h4⟩
      cases hb : blank c with
      | true => rw [lexR_blank hb] at h; exact more _ _ _ (List.suffix_cons c r) h (by omega)
      | false =>
        by_cases h35 : c = 35
        · subst h35
          have h0 := dropWhile_le (· != 10) r
          rw [lexR_note] at h
          exact more _ _ _ ((List.dropWhile_suffix _).trans (List.suffix_cons _ _)) h (by omega)
        · cases ht : tokAt (c :: r) p with
          | none => rw [lexR_bad hb h35 ht] at h; cases h
          | some t =>
            rw [lexR_tok hb h35 ht] at h
            intro u hu
            rcases more _ _ _ ((List.drop_suffix _ _).trans (List.suffix_cons c r)) h (by rw [List.length_drop]; omega) u hu with h3 | h3
            · simp only [List.mem_append, List.mem_singleton] at h3
              rcases h3 with h3 | rfl
              · exact .inl h3
              · exact .inr ⟨_, List.suffix_refl _, by rw [(tokAt_pos ht).1]; exact ht⟩
            · exact .inr h3

theorem letter_plain {c : UInt8} (h : isL c = true) : blank c = false ∧ c ≠ 35 := by
  simp only [isL, Bool.and_eq_true, decide_eq_true_eq] at h
  have key : ∀ d : UInt8, d.toNat < 97 → c ≠ d := fun d hd hh => by subst hh; omega
  refine ⟨?_, key 35 (by decide)⟩
  simp only [blank, Bool.or_eq_false_iff, beq_eq_false_iff_ne]
  exact ⟨⟨key 32 (by decide), key 9 (by decide)⟩, key 10 (by decide)⟩

theorem word_one {l : List UInt8} (h : wordB l = true) : lexR l 0 [] = .ok [⟨1, l, 0, 0⟩] := by
  cases l with
  | nil => cases h
  | cons c r =>
    simp only [wordB, Bool.and_eq_true, decide_eq_true_eq] at h
    obtain ⟨⟨h1, h2⟩, h3⟩ := h
    obtain ⟨g1, g2⟩ := letter_plain h1
    have hw : (c :: r).takeWhile isLD = c :: r := by
      have := takeWhile_all.2 h2
      rw [← take_takeWhile, this, List.take_length]
    have ht : tokAt (c :: r) 0 = some ⟨1, c :: r, 0, 0⟩ := by
      simp only [tokAt, h1, if_true, hw, h3]
    rw [lexR_tok g1 g2 ht]
    simp only [List.length_cons, Nat.add_sub_cancel, List.drop_length, lexR_nil, List.nil_append]

theorem one_word {l : List UInt8} {t : Tok} (h : lexR l 0 [] = .ok [t]) (hk : t.kind = 1) (ht : t.text = l) : wordB l = true := by
  rcases lexR_mem _ l 0 [] [t] (Nat.le_refl _) h t (by simp) with h1 | ⟨r', h1, h2⟩
  · simp at h1
  · obtain ⟨g1, g2, g3, g4⟩ := tokAt_pos h2
    have hl := h1.length_le
    rw [ht] at g2 g3
    have : r' = l := h1.eq_of_length (by omega)
    subst this
    cases r' with
    | nil => simp at g2
    | cons c r =>
      simp only [tokAt] at h2
      split at h2
      · rename_i hL
        split at h2
        · rename_i h12
          simp only [Option.some.injEq] at h2
          have h3 : t.text = (c :: r).takeWhile isLD := by rw [← h2]
          rw [ht] at h3
          have h4 : ((c :: r).takeWhile isLD).length = (c :: r).length := by rw [← h3]
          simp only [wordB, Bool.and_eq_true, decide_eq_true_eq]
          exact ⟨⟨hL, takeWhile_all.1 h4⟩, by rw [← h4]; exact h12⟩
        · cases h2
      · split at h2
        · split at h2
          · have h9 := congrArg Tok.kind (Option.some.inj h2); rw [hk] at h9; exact absurd h9 (show ¬ (2 : Int) = 1 by decide)
          · cases h2
        · split at h2
          · split at h2
            · have h9 := congrArg Tok.kind (Option.some.inj h2); rw [hk] at h9; exact absurd h9 (show ¬ (3 : Int) = 1 by decide)
            · have h9 := congrArg Tok.kind (Option.some.inj h2); rw [hk] at h9; exact absurd h9 (show ¬ (3 : Int) = 1 by decide)
          · cases h2

/-- One text of the statement's. -/
theorem names_one {n : Nat} {x : ByteArray} (hx : (L x).length ≤ 281474976710656) (hn : 20000 < n) (hxn : (L x).length + 100 < n) {S O : Type} (f : Option O) (g : Option O) (h : f = g) (bad : Option O) :
    (Option.bind (m_lex_Tokens n x) fun r3 =>
      Option.bind (idx ((bif ((r3.2.2 : Int) == 0) then ((((List.length r3.1 : Nat) : Int) : Int) == 2) else false)) [.int .i64, .str, .int .i64, .cplx .f64] r3.1 0) fun y4 =>
      Option.bind (idx ((bif (bif ((r3.2.2 : Int) == 0) then ((((List.length r3.1 : Nat) : Int) : Int) == 2) else false) then (((y4.cell 0).int : Int) == 1) else false)) [.int .i64, .str, .int .i64, .cplx .f64] r3.1 0) fun y5 =>
      Option.bind (bif (bif (bif (bif ((r3.2.2 : Int) == 0) then ((((List.length r3.1 : Nat) : Int) : Int) == 2) else false) then (((y4.cell 0).int : Int) == 1) else false) then (ByteArray.toList (y5.cell 1).str == ByteArray.toList x) else false) then m_lex_Keyword n x else some false) fun r6 =>
      Option.bind (m_lex_IsName n x) fun r7 =>
      bif (!(r7 == (bif (bif (bif (bif ((r3.2.2 : Int) == 0) then ((((List.length r3.1 : Nat) : Int) : Int) == 2) else false) then (((y4.cell 0).int : Int) == 1) else false) then (ByteArray.toList (y5.cell 1).str == ByteArray.toList x) else false) then (!r6) else false))) then bad else f) = g := by
  subst h
  rw [tokens_eq hx hn]
  simp only [Option.bind_some, keywordL n (show 100 < n by omega), nameL hx hxn, bytes_eq]
  have no : ∀ (r : List T × (Nat × Nat) × Int), (bif ((r.2.2 : Int) == 0) then ((((List.length r.1 : Nat) : Int) : Int) == 2) else false) = false → wordB (L x) = false →
      (Option.bind (idx ((bif ((r.2.2 : Int) == 0) then ((((List.length r.1 : Nat) : Int) : Int) == 2) else false)) [.int .i64, .str, .int .i64, .cplx .f64] r.1 0) fun y4 =>
      Option.bind (idx ((bif (bif ((r.2.2 : Int) == 0) then ((((List.length r.1 : Nat) : Int) : Int) == 2) else false) then (((y4.cell 0).int : Int) == 1) else false)) [.int .i64, .str, .int .i64, .cplx .f64] r.1 0) fun y5 =>
      Option.bind (bif (bif (bif (bif ((r.2.2 : Int) == 0) then ((((List.length r.1 : Nat) : Int) : Int) == 2) else false) then (((y4.cell 0).int : Int) == 1) else false) then (L (y5.cell 1).str == L x) else false) then some (kw x) else some false) fun r6 =>
      bif (!((wordB (L x) && !kw x) == (bif (bif (bif (bif ((r.2.2 : Int) == 0) then ((((List.length r.1 : Nat) : Int) : Int) == 2) else false) then (((y4.cell 0).int : Int) == 1) else false) then (L (y5.cell 1).str == L x) else false) then (!r6) else false))) then bad else f) = f := by
    intro r h1 h2
    rw [h1, h2]
    rfl
  unfold toksL
  by_cases h6 : 6000 < (L x).length
  · rw [if_pos h6]
    refine no _ rfl ?_
    cases hl : L x with
    | nil => rfl
    | cons c r =>
      rw [hl] at h6
      simp only [wordB]
      rw [decide_eq_false (by omega), Bool.and_false]
  · rw [if_neg h6]
    cases hr : lexR (L x) 0 [] with
    | bad q =>
      refine no _ rfl ?_
      cases hw : wordB (L x) with
      | false => rfl
      | true => rw [word_one hw] at hr; cases hr
    | ok l =>
      by_cases hl1 : l.length = 1
      · obtain ⟨t, rfl⟩ := List.length_eq_one_iff.1 hl1
        have e0 : ((0 : Int) == 0) = true := rfl
        simp only [outL, List.cons_append, List.nil_append, List.map_cons, List.map_nil, List.length_cons, List.length_nil, e0, cond_true]
        have e2 : (((0 + 1 + 1 : Nat) : Int) == 2) = true := rfl
        have hid : idx true [.int .i64, .str, .int .i64, .cplx .f64] [encL x t, encL x ⟨4, [], 0, (L x).length⟩] 0 = some (encL x t) := rfl
        have hk : ((encL x t).cell 0).int = t.kind := rfl
        have htx : ((encL x t).cell 1).str = B t.text := rfl
        simp only [e2, hid, Option.bind_some, hk, cond_true]
        by_cases h1 : t.kind = 1
        · rw [beq_iff_eq.2 h1]
          simp only [hid, Option.bind_some, htx, L_B, cond_true]
          by_cases h2 : t.text = L x
          · rw [beq_iff_eq.2 h2, one_word hr h1 h2]
            simp only [cond_true, Option.bind_some, Bool.true_and, BEq.rfl, Bool.not_true, cond_false]
          · rw [beq_eq_false_iff_ne.2 h2]
            have : wordB (L x) = false := by
              cases hw : wordB (L x) with
              | false => rfl
              | true =>
                rw [word_one hw] at hr
                injection hr with hr
                injection hr with hr
                exact absurd (by rw [← hr]) h2
            rw [this]
            rfl
        · rw [beq_eq_false_iff_ne.2 h1]
          have : wordB (L x) = false := by
            cases hw : wordB (L x) with
            | false => rfl
            | true =>
              rw [word_one hw] at hr
              injection hr with hr
              injection hr with hr
              exact absurd (by rw [← hr]) h1
          rw [this]
          rfl
      · refine no _ ?_ ?_
        · simp only [outL, List.length_map, List.length_append, List.length_cons, List.length_nil]
          have e0 : ((0 : Int) == 0) = true := rfl
          rw [e0, cond_true, beq_eq_false_iff_ne]
          omega
        · cases hw : wordB (L x) with
          | false => rfl
          | true =>
            rw [word_one hw] at hr
            injection hr with hr
            rw [← hr] at hl1
            simp at hl1

/-- LexNames: THE PLAIN LAW. -/
theorem lexNames_law (z : List Int) (raw : ByteArray) (hz : ∀ x ∈ z, (Lit.int .i64 x).wf = true) (lz : z.length ≤ 17592186044416) (hr : raw.size ≤ 140737488351232) :
    ∃ n, m_suturelaw2_LexNames n (ints .i64 z) raw = some true := by
  refine ⟨20001 + 11 * z.length + raw.size + 1000, ?_⟩
  generalize hN : 20001 + 11 * z.length + raw.size + 1000 = n
  have hr' : (L raw).length ≤ 140737488351232 := by rw [← size_L]; exact hr
  have hrn : (L raw).length + 100 < n := by rw [← size_L]; omega
  obtain ⟨s, hs1, hs2⟩ := text_ok (n := n) (z := z) raw lz (by omega)
  obtain ⟨u, hu1, hu2⟩ := text_ok (n := n) (z := z.take 1) (⟨#[]⟩ : ByteArray) (by rw [List.length_take]; omega) (by rw [List.length_take]; omega)
  rw [List.length_take] at hu2
  unfold m_suturelaw2_LexNames
  rw [hs1]
  have hlen : (ints .i64 z).length = z.length := by simp [ints]
  have hmin : (if (1 : Int) < ((List.length (ints .i64 z) : Nat) : Int) then 1 else ((List.length (ints .i64 z) : Nat) : Int)) = ((min 1 z.length : Nat) : Int) := by
    rw [hlen]
    by_cases h : 1 < z.length
    · rw [if_pos (by omega)]; omega
    · rw [if_neg (by omega)]; omega
  have hsz : sized 1 (ints .i64 z) = true := by
    unfold sized
    rw [List.all_eq_true]
    intro y hy
    simp only [ints, List.mem_map] at hy
    obtain ⟨v, _, rfl⟩ := hy
    rfl
  have htk : List.drop (Int.toNat 0) (List.take (Int.toNat ((min 1 z.length : Nat) : Int)) (ints .i64 z)) = ints .i64 (z.take 1) := by
    have e0 : Int.toNat (0 : Int) = 0 := rfl
    rw [Int.toNat_natCast, e0, List.drop_zero]
    unfold ints
    rw [← List.map_take]
    congr 1
    by_cases h : 1 ≤ z.length
    · rw [show min 1 z.length = 1 by omega]
    · have : z = [] := List.length_eq_zero_iff.1 (by omega)
      subst this; rfl
  simp only [Option.bind_some, hmin, htk, hu1]
  rw [must_eq (by rw [hsz, hlen]; simp only [Bool.and_eq_true, decide_eq_true_eq, and_true]; exact ⟨⟨by decide, by omega⟩, by omega⟩)]
  have loop : l_suturelaw2_LexNames_2 n n (raw, s, raw, u, 0) = some (.inr raw) := by
    obtain ⟨m, hm⟩ : ∃ m, n = m + 4 := ⟨n - 4, by omega⟩
    have stp : ∀ (m i : Nat), i < 3 → l_suturelaw2_LexNames_2 n (m + 1) (raw, s, raw, u, (i : Int)) = l_suturelaw2_LexNames_2 n m (raw, s, raw, u, ((i + 1 : Nat) : Int)) := by
      intro m i hi
      rw [l_suturelaw2_LexNames_2]
      unfold l_suturelaw2_LexNames_2_B
      simp only
      rw [decide_eq_true (show (i : Int) < 3 by omega), wrap_up (show i ≤ 281474976710656 by omega)]
      have hx := idx1_str (v := [s, raw, u]) (i := i) hi
      have hx' : idx1 true .str [(T.sc (.string s)), (T.sc (.string raw)), (T.sc (.string u))] (i : Int) = some (str1 [s, raw, u][i]) := hx
      simp only [cond_true, hx', Option.bind_some]
      have hy : (str1 [s, raw, u][i]).str = [s, raw, u][i] := rfl
      rw [hy]
      have hb : (L [s, raw, u][i]).length ≤ 281474976710656 ∧ (L [s, raw, u][i]).length + 100 < n := by
        have : [s, raw, u][i] ∈ [s, raw, u] := List.getElem_mem _
        simp only [List.mem_cons, List.not_mem_nil, or_false] at this
        rcases this with h | h | h <;> rw [h] <;> omega
      exact names_one (S := Unit) hb.1 (by omega) hb.2 _ _ rfl _
    have e : l_suturelaw2_LexNames_2 n (m + 4) (raw, s, raw, u, ((0 : Nat) : Int)) = some (.inr raw) := by
      rw [stp (m + 3) 0 (by omega), stp (m + 2) 1 (by omega), stp (m + 1) 2 (by omega)]
      rfl
    conv => lhs; rw [show l_suturelaw2_LexNames_2 n n = l_suturelaw2_LexNames_2 n (m + 4) by rw [← hm]]
    exact e
  rw [loop]
  simp only [Option.bind_some, Sum.elim_inr, kn, cond_true]
  obtain ⟨k, hk1, hk2⟩ := pick_eq n ((ByteArray.size raw : Nat) : Int) 2 (by omega) (by omega)
  rw [hk1]
  simp only [Option.bind_some]
  rw [decide_eq_true (show (k : Int) ≥ 0 by omega)]
end Go.Proofs.YtkolhagejiabhaaDoor.W
