/- Chapter 2, plain: keywords and names; any text's tokens are as the document says. -/
import Derived.Test.YtkolhagejiabhaaDoorLF
namespace Go.Proofs.YtkolhagejiabhaaDoor.W
open Go Go.Eng Go.Eng.Fl
set_option linter.unusedVariables false
set_option linter.unusedSimpArgs false

def kws : List ByteArray := [(⟨#[118, 97, 114]⟩ : ByteArray), (⟨#[119, 105, 100, 101]⟩ : ByteArray), (⟨#[97, 116, 111, 109, 105, 99]⟩ : ByteArray), (⟨#[108, 111, 99, 97, 108]⟩ : ByteArray), (⟨#[109, 117, 116, 101, 120]⟩ : ByteArray), (⟨#[99, 104, 97, 110]⟩ : ByteArray), (⟨#[103, 111]⟩ : ByteArray), (⟨#[108, 111, 99, 107]⟩ : ByteArray), (⟨#[117, 110, 108, 111, 99, 107]⟩ : ByteArray), (⟨#[115, 101, 110, 100]⟩ : ByteArray), (⟨#[114, 101, 99, 118]⟩ : ByteArray), (⟨#[112, 114, 105, 110, 116]⟩ : ByteArray), (⟨#[105, 102]⟩ : ByteArray), (⟨#[101, 108, 115, 101]⟩ : ByteArray), (⟨#[114, 101, 112, 101, 97, 116]⟩ : ByteArray), (⟨#[103, 111, 116, 111]⟩ : ByteArray), (⟨#[108, 97, 98, 101, 108]⟩ : ByteArray)]
def str1 (s : ByteArray) : T := .sc (.string s)
/-- A keyword? -/
def kw (a : ByteArray) : Bool := kws.any fun k => L a == L k

theorem idx_str {v : List ByteArray} {i : Nat} (h : i < v.length) : idx true [.str] (v.map str1) (i : Int) = some (str1 v[i]) := by
  have h0 : decide ((0 : Int) ≤ (i : Int)) = true := by simp
  simp only [idx, cond_true, h0, Int.toNat_natCast, List.getElem?_map, List.getElem?_eq_getElem h, Option.map_some]
  rfl
theorem idx1_str {v : List ByteArray} {i : Nat} (h : i < v.length) : idx1 true .str (v.map str1) (i : Int) = some (str1 v[i]) := by
  have h0 : decide ((0 : Int) ≤ (i : Int)) = true := by simp
  simp only [idx1, cond_true, h0, Int.toNat_natCast, List.getElem?_map, List.getElem?_eq_getElem h, Option.map_some]
  rfl

theorem index_loop (n : Nat) (ks : List ByteArray) (a : ByteArray) (hk : ks.length ≤ 1000) : ∀ (m i : Nat), i ≤ ks.length → ks.length - i < m →
    ∃ r, l_slices_Index___string_string__2 n m (ks.map str1, a, (ks.length : Int), (i : Int)) = some r ∧
      (if (ks.drop i).any (fun k => L a == L k) = true then ∃ j : Nat, r = .inl (j : Int) else r = .inr ())
  | 0, i, _, hm => by omega
  | m + 1, i, hi, hm => by
    rw [l_slices_Index___string_string__2]
    unfold l_slices_Index___string_string__2_B
    simp only
    by_cases hlt : i < ks.length
    · rw [decide_eq_true (show (i : Int) < (ks.length : Int) by omega)]
      simp only [cond_true, idx_str hlt, Option.bind_some, bytes_eq]
      rw [List.drop_eq_getElem_cons hlt, List.any_cons]
      have e : ((str1 ks[i]).cell 0).str = ks[i] := rfl
      rw [e]
      cases hq : (L a == L ks[i]) with
      | true =>
        simp only [cond_true, Bool.true_or, if_true]
        exact ⟨_, rfl, i, rfl⟩
      | false =>
        simp only [cond_false, Bool.false_or]
        rw [wrap_up (show i ≤ 281474976710656 by omega)]
        exact index_loop n ks a hk m (i + 1) (by omega) (by omega)
    · rw [decide_eq_false (show ¬ (i : Int) < (ks.length : Int) by omega), List.drop_eq_nil_of_le (by omega)]
      exact ⟨_, rfl, rfl⟩

theorem keywordL (n : Nat) (hn : 100 < n) (a : ByteArray) : m_lex_Keyword n a = some (kw a) := by
  have e : m_lex_Keyword n a = Option.bind (m_slices_Contains___string_string_ n (kws.map str1) a) fun r0 => some r0 := rfl
  rw [e]
  unfold m_slices_Contains___string_string_ m_slices_Index___string_string_
  obtain ⟨r, h1, h2⟩ := index_loop n kws a (by decide) n 0 (by omega) (by show 17 - 0 < n; omega)
  rw [List.length_map]
  rw [show ((0 : Int)) = ((0 : Nat) : Int) from rfl, h1]
  rw [List.drop_zero] at h2
  unfold kw
  split at h2
  · rename_i hk
    obtain ⟨j, rfl⟩ := h2
    rw [hk]
    simp only [Option.bind_some, Sum.elim_inl]
    rw [decide_eq_true (show (j : Int) ≥ ((0 : Nat) : Int) by omega)]
  · rename_i hk
    subst h2
    rw [(Bool.not_eq_true _).mp hk]
    rfl

theorem kwR_loop (n : Nat) (a : ByteArray) : ∀ (m i : Nat), i ≤ 17 → 17 - i < m →
    l_sutureref1_Keyword_2 n m (a, (⟨#[118, 97, 114]⟩ : ByteArray), (⟨#[119, 105, 100, 101]⟩ : ByteArray), (⟨#[97, 116, 111, 109, 105, 99]⟩ : ByteArray), (⟨#[108, 111, 99, 97, 108]⟩ : ByteArray), (⟨#[109, 117, 116, 101, 120]⟩ : ByteArray), (⟨#[99, 104, 97, 110]⟩ : ByteArray), (⟨#[103, 111]⟩ : ByteArray), (⟨#[108, 111, 99, 107]⟩ : ByteArray), (⟨#[117, 110, 108, 111, 99, 107]⟩ : ByteArray), (⟨#[115, 101, 110, 100]⟩ : ByteArray), (⟨#[114, 101, 99, 118]⟩ : ByteArray), (⟨#[112, 114, 105, 110, 116]⟩ : ByteArray), (⟨#[105, 102]⟩ : ByteArray), (⟨#[101, 108, 115, 101]⟩ : ByteArray), (⟨#[114, 101, 112, 101, 97, 116]⟩ : ByteArray), (⟨#[103, 111, 116, 111]⟩ : ByteArray), (⟨#[108, 97, 98, 101, 108]⟩ : ByteArray), (i : Int)) =
      if (kws.drop i).any (fun k => L a == L k) = true then some (.inl true) else some (.inr ())
  | 0, i, _, hm => by omega
  | m + 1, i, hi, hm => by
    rw [l_sutureref1_Keyword_2]
    unfold l_sutureref1_Keyword_2_B
    simp only
    have hlen : kws.length = 17 := rfl
    by_cases hlt : i < 17
    · rw [decide_eq_true (show (i : Int) < 17 by omega)]
      have hx := idx1_str (v := kws) (i := i) hlt
      have hx' : idx1 true .str [(T.sc (.string (⟨#[118, 97, 114]⟩ : ByteArray))), (T.sc (.string (⟨#[119, 105, 100, 101]⟩ : ByteArray))), (T.sc (.string (⟨#[97, 116, 111, 109, 105, 99]⟩ : ByteArray))), (T.sc (.string (⟨#[108, 111, 99, 97, 108]⟩ : ByteArray))), (T.sc (.string (⟨#[109, 117, 116, 101, 120]⟩ : ByteArray))), (T.sc (.string (⟨#[99, 104, 97, 110]⟩ : ByteArray))), (T.sc (.string (⟨#[103, 111]⟩ : ByteArray))), (T.sc (.string (⟨#[108, 111, 99, 107]⟩ : ByteArray))), (T.sc (.string (⟨#[117, 110, 108, 111, 99, 107]⟩ : ByteArray))), (T.sc (.string (⟨#[115, 101, 110, 100]⟩ : ByteArray))), (T.sc (.string (⟨#[114, 101, 99, 118]⟩ : ByteArray))), (T.sc (.string (⟨#[112, 114, 105, 110, 116]⟩ : ByteArray))), (T.sc (.string (⟨#[105, 102]⟩ : ByteArray))), (T.sc (.string (⟨#[101, 108, 115, 101]⟩ : ByteArray))), (T.sc (.string (⟨#[114, 101, 112, 101, 97, 116]⟩ : ByteArray))), (T.sc (.string (⟨#[103, 111, 116, 111]⟩ : ByteArray))), (T.sc (.string (⟨#[108, 97, 98, 101, 108]⟩ : ByteArray)))] (i : Int) = some (str1 kws[i]) := hx
      simp only [cond_true, hx', Option.bind_some, bytes_eq]
      rw [List.drop_eq_getElem_cons (show i < kws.length from hlt), List.any_cons]
      have e : (str1 kws[i]).str = kws[i] := rfl
      rw [e]
      cases hq : (L a == L kws[i]) with
      | true => simp only [cond_true, Bool.true_or, if_true]
      | false =>
        simp only [cond_false, Bool.false_or]
        rw [wrap_up (show i ≤ 281474976710656 by omega)]
        exact kwR_loop n a m (i + 1) (by omega) (by omega)
    · rw [decide_eq_false (show ¬ (i : Int) < 17 by omega), List.drop_eq_nil_of_le (by show 17 ≤ i; omega)]
      rfl

theorem keywordR (n : Nat) (hn : 100 < n) (a : ByteArray) : m_sutureref1_Keyword n a = some (kw a) := by
  have h := kwR_loop n a n 0 (by omega) (by omega)
  rw [List.drop_zero] at h
  unfold m_sutureref1_Keyword
  rw [show ((0 : Int)) = ((0 : Nat) : Int) from rfl, h]
  unfold kw
  cases hk : kws.any (fun k => L a == L k) with
  | true => rfl
  | false => rfl

/-- A word, all of it? -/
def wordB (l : List UInt8) : Bool := match l with
  | [] => false
  | c :: _ => isL c && l.all isLD && decide (l.length ≤ 12)

theorem takeWhile_all {f : UInt8 → Bool} : ∀ {l : List UInt8}, (l.takeWhile f).length = l.length ↔ l.all f = true
  | [] => by simp
  | c :: l => by
    rw [List.all_cons]
    cases h : f c with
    | true => rw [List.takeWhile_cons_of_pos h]; simp only [List.length_cons, Bool.true_and]; rw [← takeWhile_all (l := l)]; omega
    | false => rw [List.takeWhile_cons_of_neg (by rw [h]; simp)]; simp

theorem nameL {n : Nat} {a : ByteArray} (hs : (L a).length ≤ 281474976710656) (hn : (L a).length + 100 < n) : m_lex_IsName n a = some (wordB (L a) && !kw a) := by
  unfold m_lex_IsName
  have e0 : L (⟨#[]⟩ : ByteArray) = [] := rfl
  rw [bytes_eq, e0, word_eq n a hs (by omega)]
  cases hl : L a with
  | nil => rfl
  | cons c r =>
    have hne : (c :: r == ([] : List UInt8)) = false := rfl
    simp only [hne, Bool.not_false, cond_true, Option.bind_some, size_L, hl, keywordL n (by omega)]
    have hw : ((wordLen (c :: r) : Int) == (((c :: r).length : Nat) : Int)) = wordB (c :: r) := by
      apply Bool.eq_iff_iff.2
      rw [beq_iff_eq]
      simp only [wordLen, wordB, Bool.and_eq_true, decide_eq_true_eq]
      by_cases h1 : isL c = true ∧ ((c :: r).takeWhile isLD).length ≤ 12
      · rw [if_pos h1]
        constructor
        · intro h
          have h2 : ((c :: r).takeWhile isLD).length = (c :: r).length := by omega
          exact ⟨⟨h1.1, takeWhile_all.1 h2⟩, by omega⟩
        · rintro ⟨⟨_, h2⟩, _⟩
          rw [takeWhile_all.2 h2]
      · rw [if_neg h1]
        constructor
        · intro h; simp only [List.length_cons] at h; omega
        · rintro ⟨⟨h2, h3⟩, h4⟩
          exact absurd ⟨h2, by rw [takeWhile_all.2 h3]; exact h4⟩ h1
    rw [hw]
    cases wordB (c :: r) <;> rfl

theorem isWord_loop {n : Nat} {a : ByteArray} (hs : (L a).length ≤ 281474976710656) : ∀ (m i : Nat), i ≤ (L a).length → (L a).length - i < m →
    l_sutureref1_isWord_2 n m (a, (i : Int)) = if (i = 0 → ((L a).head?).all isL = true) ∧ ((L a).drop i).all isLD = true then some (.inr a) else some (.inl false)
  | 0, i, _, hm => by omega
  | m + 1, i, hi, hm => by
    rw [l_sutureref1_isWord_2]
    unfold l_sutureref1_isWord_2_B
    simp only
    by_cases hlt : i < (L a).length
    · rw [decide_eq_true (show (i : Int) < ((ByteArray.size a : Nat) : Int) by rw [size_L]; omega)]
      have hdrop := List.drop_eq_getElem_cons hlt
      have ih := isWord_loop (n := n) hs m (i + 1) (by omega) (by omega)
      simp only [cond_true, bidx_at hlt, Option.bind_some, rletter_eq]
      rw [hdrop, List.all_cons]
      have hhead : i = 0 → (L a).head? = some (L a)[i] := by
        intro h0; subst h0
        rw [List.head?_eq_getElem?, List.getElem?_eq_getElem hlt]
      have next : isLD (L a)[i] = true → (i = 0 → isL (L a)[i] = true) → l_sutureref1_isWord_2 n m (a, IntKind.wrap .i64 ((i : Int) + 1)) = if (i = 0 → ((L a).head?).all isL = true) ∧ (isLD (L a)[i] && ((L a).drop (i + 1)).all isLD) = true then some (.inr a) else some (.inl false) := by
        intro h1 h2
        rw [wrap_up (show i ≤ 281474976710656 by omega), ih, h1, Bool.true_and]
        have hA : (i = 0 → ((L a).head?).all isL = true) := fun h0 => by rw [hhead h0]; exact h2 h0
        by_cases hd : ((L a).drop (i + 1)).all isLD = true
        · rw [if_pos ⟨fun h => absurd h (by omega), hd⟩, if_pos ⟨hA, hd⟩]
        · rw [if_neg (fun h => hd h.2), if_neg (fun h => hd h.2)]
      cases hl : isL (L a)[i] with
      | true =>
        simp only [Bool.not_true, Bool.false_and, bidx_no, Option.bind_some, cond_false]
        exact next (isLD_L hl) (fun _ => hl)
      | false =>
        simp only [Bool.not_false, Bool.true_and, cond_true]
        by_cases h0 : i = 0
        · subst h0
          have e : (((0 : Nat) : Int) == 0) = true := rfl
          simp only [e, Bool.not_true, bidx_no, Option.bind_some, cond_false, cond_true]
          rw [if_neg]
          rintro ⟨h1, _⟩
          have := h1 trivial
          rw [hhead rfl] at this
          simp only [Option.all_some, hl] at this
          cases this
        · have e : (((i : Nat) : Int) == 0) = false := by rw [beq_eq_false_iff_ne]; omega
          simp only [e, Bool.not_false, bidx_at hlt, Option.bind_some, cond_true, rdigit_eq, cond_false]
          cases hd : isD (L a)[i] with
          | true =>
            simp only [Bool.not_true, cond_false]
            exact next (isLD_D hd) (fun h => absurd h h0)
          | false =>
            simp only [Bool.not_false, cond_true]
            rw [if_neg]
            rintro ⟨_, h2⟩
            rw [isLD_no hl hd, Bool.false_and] at h2
            cases h2
    · rw [decide_eq_false (show ¬ (i : Int) < ((ByteArray.size a : Nat) : Int) by rw [size_L]; omega), List.drop_eq_nil_of_le (by omega)]
      rw [if_pos ⟨fun h0 => by
        have : L a = [] := List.length_eq_zero_iff.1 (by omega)
        rw [this]; rfl, rfl⟩]
      rfl

theorem nameR {n : Nat} {a : ByteArray} (hs : (L a).length ≤ 281474976710656) (hn : (L a).length + 100 < n) : m_sutureref1_IsName n a = some (wordB (L a) && !kw a) := by
  unfold m_sutureref1_IsName m_sutureref1_isWord
  have h := isWord_loop (n := n) hs n 0 (by omega) (by omega)
  rw [List.drop_zero] at h
  rw [show ((0 : Int)) = ((0 : Nat) : Int) from rfl, h]
  have e0 : L (⟨#[]⟩ : ByteArray) = [] := rfl
  cases hl : L a with
  | nil =>
    rw [if_pos ⟨fun _ => rfl, rfl⟩]
    simp only [Option.bind_some, Sum.elim_inr, bytes_eq, e0, hl]
    rfl
  | cons c r =>
    have hne : (c :: r == ([] : List UInt8)) = false := rfl
    by_cases hc : isL c = true ∧ (c :: r).all isLD = true
    · rw [if_pos ⟨fun _ => hc.1, hc.2⟩]
      simp only [Option.bind_some, Sum.elim_inr, bytes_eq, e0, hl, hne, Bool.not_false, cond_true, size_L, keywordR n (by omega)]
      have hw : decide ((((c :: r).length : Nat) : Int) ≤ 12) = wordB (c :: r) := by
        simp only [wordB, hc.1, hc.2, Bool.true_and]
        apply Bool.eq_iff_iff.2
        rw [decide_eq_true_eq, decide_eq_true_eq]
        omega
      rw [hw]
      cases wordB (c :: r) <;> rfl
    · rw [if_neg (fun h => hc ⟨h.1 rfl, h.2⟩)]
      have hw : wordB (c :: r) = false := by
        simp only [wordB]
        rw [Bool.and_eq_false_iff]
        left
        rw [Bool.and_eq_false_iff]
        by_cases h1 : isL c = true
        · right
          exact (Bool.not_eq_true _).mp (fun h2 => hc ⟨h1, h2⟩)
        · left; exact (Bool.not_eq_true _).mp h1
      rw [hw]
      rfl

/-! tokens side by side -/

theorem lexR_pos : ∀ (k : Nat) (r : List UInt8) (p : Nat) (acc l : List Tok), r.length ≤ k → (∀ t ∈ acc, t.pos ≤ p + r.length) → lexR r p acc = .ok l → ∀ t ∈ l, t.pos ≤ p + r.length := by
  intro k
  induction k with
  | zero =>
    intro r p acc l hr ha h
    have : r = [] := List.length_eq_zero_iff.1 (by omega)
    subst this
    rw [lexR_nil] at h; cases h; exact ha
  | succ k ih =>
    intro r p acc l hr ha h
    cases r with
    | nil => rw [lexR_nil] at h; cases h; exact ha
    | cons c r =>
      simp only [List.length_cons] at hr ha ⊢
      cases hb : blank c with
      | true =>
        rw [lexR_blank hb] at h
        intro t ht
        have := ih r _ acc l (by omega) (fun t ht => by have := ha t ht; omega) h t ht
        omega
      | false =>
        by_cases h35 : c = 35
        · subst h35
          rw [lexR_note] at h
          have h1 := congrArg List.length (List.takeWhile_append_dropWhile (p := (· != 10)) (l := r))
          rw [List.length_append] at h1
          intro t ht
          have := ih _ _ acc l (by omega) (fun t ht => by have := ha t ht; omega) h t ht
          omega
        · cases ht : tokAt (c :: r) p with
          | none => rw [lexR_bad hb h35 ht] at h; cases h
          | some t =>
            rw [lexR_tok hb h35 ht] at h
            obtain ⟨g1, g2, g3, g4⟩ := tokAt_pos ht
            simp only [List.length_cons] at g3
            intro u hu
            have := ih _ _ (acc ++ [t]) l (by rw [List.length_drop]; omega) (fun t' ht' => by
              rw [List.length_drop]
              simp only [List.mem_append, List.mem_singleton] at ht'
              rcases ht' with h' | rfl
              · have := ha t' h'; omega
              · omega) h u hu
            rw [List.length_drop] at this
            omega

theorem tells_loop {n : Nat} {s : ByteArray} (hs : (L s).length ≤ 6000) (hn : 6001 < n) (l : List Tok) (hl : l.length ≤ 6001) (hp : ∀ t ∈ l, t.pos ≤ (L s).length) (z : List T) (raw : ByteArray) : ∀ (m i : Nat), i ≤ l.length → l.length - i < m →
    l_suturelaw2_LexTells_9 n m (z, raw, s, l.map (encL s), l.map encR, (l.length : Int), (i : Int)) = some (.inr (z, raw))
  | 0, i, _, hm => by omega
  | m + 1, i, hi, hm => by
    rw [l_suturelaw2_LexTells_9]
    unfold l_suturelaw2_LexTells_9_B
    simp only
    by_cases hlt : i < l.length
    · rw [decide_eq_true (show (i : Int) < (l.length : Int) by omega)]
      have h0 : decide ((0 : Int) ≤ (i : Int)) = true := by simp
      have e1 : idx true [.int .i64, .str, .int .i64, .cplx .f64] (l.map (encL s)) (i : Int) = some (encL s l[i]) := by
        simp only [idx, cond_true, h0, Int.toNat_natCast, List.getElem?_map, List.getElem?_eq_getElem hlt, Option.map_some]
        rfl
      have e2 : idx true [.int .i64, .str, .int .i64, .int .i64] (l.map encR) (i : Int) = some (encR l[i]) := by
        simp only [idx, cond_true, h0, Int.toNat_natCast, List.getElem?_map, List.getElem?_eq_getElem hlt, Option.map_some]
        rfl
      have k1 : ((encL s l[i]).cell 0).int = l[i].kind := rfl
      have k2 : ((encR l[i]).cell 0).int = l[i].kind := rfl
      have t1 : ((encL s l[i]).cell 1).str = B l[i].text := rfl
      have t2 : ((encR l[i]).cell 1).str = B l[i].text := rfl
      have n1 : ((encL s l[i]).cell 2).int = (l[i].num : Int) := rfl
      have n2 : ((encR l[i]).cell 2).int = (l[i].num : Int) := rfl
      have p1 : ((encL s l[i]).cell 3).re = (P s l[i].pos).1 := rfl
      have p2 : ((encL s l[i]).cell 3).im = (P s l[i].pos).2 := rfl
      have p3 : ((encR l[i]).cell 3).int = (l[i].pos : Int) := rfl
      simp only [cond_true, e1, e2, Option.bind_some, k1, k2, bne_self_eq_false, Bool.not_false, t1, t2, BEq.rfl, Bool.not_true, cond_false, n1, n2, p3]
      have hpos := hp _ (List.getElem_mem hlt)
      rw [place_eq (by omega) hpos (by omega)]
      simp only [Option.bind_some, p1, p2, P_refl (show (L s).length ≤ 281474976710656 by omega), Bool.not_true, cond_false]
      rw [wrap_up (show i ≤ 281474976710656 by omega)]
      exact tells_loop hs hn l hl hp z raw m (i + 1) (by omega) (by omega)
    · rw [decide_eq_false (show ¬ (i : Int) < (l.length : Int) by omega)]
      rfl

theorem kn (n : Nat) : m_suturelaw2_known n = some true := rfl

/-- LexTells: THE PLAIN LAW. -/
theorem lexTells_pure (z : List Int) (hz : ∀ x ∈ z, (Lit.int .i64 x).wf = true) (lz : z.length ≤ 17592186044416) (raw : ByteArray) (hr : raw.size ≤ 140737488351232) (any : Bool) :
    ∃ n, m_suturelaw2_LexTells n (ints .i64 z) raw any = some true := by
  refine ⟨20001 + 11 * z.length + raw.size + 1000, ?_⟩
  generalize hN : 20001 + 11 * z.length + raw.size + 1000 = n
  have hr' : (L raw).length ≤ 140737488351232 := by rw [← size_L]; exact hr
  have hrn : (L raw).length + 100 < n := by rw [← size_L]; omega
  obtain ⟨s, hs1, hs2⟩ := text_ok (n := n) (z := z) raw lz (by omega)
  obtain ⟨u, hu1, hu2⟩ := text_ok (n := n) (z := z) (⟨#[]⟩ : ByteArray) lz (by omega)
  have hun : (L u).length + 100 < n := by omega
  -- one text's tokens, of both
  have main : ∀ (x : ByteArray) (hx : (L x).length ≤ 281474976710656) (hxn : (L x).length < n), (Option.bind (m_lex_Tokens n x) fun r25 =>
      Option.bind (m_sutureref1_Tokens n x) fun r26 =>
      Option.bind (bif (!(bif ((r25.2.2 : Int) != r26.2.2) then true else ((((List.length r25.1 : Nat) : Int) : Int) != ((List.length r26.1 : Nat) : Int))) && ((r25.2.2 : Int) != 0)) then m_sutureref1_Place n x r26.2.1 else some (0, 0)) fun r27 =>
      bif (bif (bif (bif ((r25.2.2 : Int) != r26.2.2) then true else ((((List.length r25.1 : Nat) : Int) : Int) != ((List.length r26.1 : Nat) : Int))) then true else (bif ((r25.2.2 : Int) != 0) then (!(cplxEq .f64 r25.2.1.1 r25.2.1.2 r27.1 r27.2)) else false)) then true else (bif ((r25.2.2 : Int) == 0) then (!(cplxEq .f64 r25.2.1.1 r25.2.1.2 0 0)) else false)) then (
      some false)
      else (
      Option.bind (l_suturelaw2_LexTells_9 n n (ints .i64 z, raw, x, r25.1, r26.1, ((List.length r26.1 : Nat) : Int), 0)) fun x28 =>
      Sum.elim (fun p29 => some p29) (fun x28' => (fun p30 =>
      Option.bind (m_suturelaw2_known n) fun r31 =>
      Option.bind (bif r31 then m_lex_Keyword n p30.2 else some false) fun r32 =>
      Option.bind (bif r31 then m_sutureref1_Keyword n p30.2 else some false) fun r33 =>
      Option.bind (bif (bif r31 then (r32 == r33) else false) then m_lex_IsName n p30.2 else some false) fun r34 =>
      Option.bind (bif (bif r31 then (r32 == r33) else false) then m_sutureref1_IsName n p30.2 else some false) fun r35 =>
      Option.bind (bif (bif (bif r31 then (r32 == r33) else false) then (r34 == r35) else false) then m_suturelaw2_text n p30.1 (⟨#[]⟩ : ByteArray) else some default) fun r36 =>
      Option.bind (bif (bif (bif r31 then (r32 == r33) else false) then (r34 == r35) else false) then m_lex_IsName n r36 else some false) fun r37 =>
      Option.bind (bif (bif (bif r31 then (r32 == r33) else false) then (r34 == r35) else false) then m_suturelaw2_text n p30.1 (⟨#[]⟩ : ByteArray) else some default) fun r38 =>
      Option.bind (bif (bif (bif r31 then (r32 == r33) else false) then (r34 == r35) else false) then m_sutureref1_IsName n r38 else some false) fun r39 =>
      some (bif (bif (bif r31 then (r32 == r33) else false) then (r34 == r35) else false) then (r37 == r39) else false)) x28') x28)) = some true := by
    intro x hx hxn
    have rest : ∀ (p30 : List T × ByteArray), p30 = (ints .i64 z, raw) → (Option.bind (m_suturelaw2_known n) fun r31 =>
      Option.bind (bif r31 then m_lex_Keyword n p30.2 else some false) fun r32 =>
      Option.bind (bif r31 then m_sutureref1_Keyword n p30.2 else some false) fun r33 =>
      Option.bind (bif (bif r31 then (r32 == r33) else false) then m_lex_IsName n p30.2 else some false) fun r34 =>
      Option.bind (bif (bif r31 then (r32 == r33) else false) then m_sutureref1_IsName n p30.2 else some false) fun r35 =>
      Option.bind (bif (bif (bif r31 then (r32 == r33) else false) then (r34 == r35) else false) then m_suturelaw2_text n p30.1 (⟨#[]⟩ : ByteArray) else some default) fun r36 =>
      Option.bind (bif (bif (bif r31 then (r32 == r33) else false) then (r34 == r35) else false) then m_lex_IsName n r36 else some false) fun r37 =>
      Option.bind (bif (bif (bif r31 then (r32 == r33) else false) then (r34 == r35) else false) then m_suturelaw2_text n p30.1 (⟨#[]⟩ : ByteArray) else some default) fun r38 =>
      Option.bind (bif (bif (bif r31 then (r32 == r33) else false) then (r34 == r35) else false) then m_sutureref1_IsName n r38 else some false) fun r39 =>
      some (bif (bif (bif r31 then (r32 == r33) else false) then (r34 == r35) else false) then (r37 == r39) else false)) = some true := by
      rintro p30 rfl
      simp only [kn, Option.bind_some, cond_true, keywordL n (show 100 < n by omega), keywordR n (show 100 < n by omega), BEq.rfl, nameL (show (L raw).length ≤ 281474976710656 by omega) hrn, nameR (show (L raw).length ≤ 281474976710656 by omega) hrn, hu1, nameL (show (L u).length ≤ 281474976710656 by omega) hun, nameR (show (L u).length ≤ 281474976710656 by omega) hun]
    rw [tokens_eq hx (by omega), tokensR_eq (by omega)]
    simp only [Option.bind_some]
    unfold toksL toksR
    by_cases h6 : 6000 < (L x).length
    · rw [if_pos h6, if_pos h6]
      have hpl := place_eq (n := n) hx (show 6000 ≤ (L x).length by omega) (by omega)
      have e : ((6000 : Nat) : Int) = 6000 := by omega
      rw [e] at hpl
      have e2 : ((2 : Int) != 2) = false := rfl
      have e3 : ((2 : Int) != 0) = true := rfl
      have e4 : ((2 : Int) == 0) = false := rfl
      simp only [e2, cond_false, bne_self_eq_false, Bool.not_false, e3, Bool.and_true, cond_true, hpl, Option.bind_some, P_refl hx, Bool.not_true, e4]
      have hlp := tells_loop (n := n) (s := ⟨#[]⟩) (by show 0 ≤ 6000; omega) (by omega) [] (by simp) (by simp) (ints .i64 z) raw n 0 (by simp) (by simp; omega)
      have hl2 : l_suturelaw2_LexTells_9 n n (ints .i64 z, raw, x, [], [], ((List.length ([] : List T) : Nat) : Int), 0) = some (.inr (ints .i64 z, raw)) := by
        obtain ⟨n', rfl⟩ : ∃ n', n = n' + 1 := ⟨n - 1, by omega⟩
        rfl
      rw [hl2]
      exact rest _ rfl
    · rw [if_neg h6, if_neg h6]
      cases hr2 : lexR (L x) 0 [] with
      | bad q =>
        have hq : q ≤ (L x).length := by
          have : ∀ (k : Nat) (r : List UInt8) (p : Nat) (acc : List Tok), r.length ≤ k → ∀ q, lexR r p acc = .bad q → q ≤ p + r.length := by
            intro k
            induction k with
            | zero =>
              intro r p acc hr q h
              have : r = [] := List.length_eq_zero_iff.1 (by omega)
              subst this
              rw [lexR_nil] at h; cases h
            | succ k ih =>
              intro r p acc hr q h
              cases r with
              | nil => rw [lexR_nil] at h; cases h
              | cons c r =>
                simp only [List.length_cons] at hr ⊢
                cases hb : blank c with
                | true => rw [lexR_blank hb] at h; have := ih r _ acc (by omega) q h; omega
                | false =>
                  by_cases h35 : c = 35
                  · subst h35
                    rw [lexR_note] at h
                    have h1 := congrArg List.length (List.takeWhile_append_dropWhile (p := (· != 10)) (l := r))
                    rw [List.length_append] at h1
                    have := ih _ _ acc (by omega) q h
                    omega
                  · cases ht : tokAt (c :: r) p with
                    | none => rw [lexR_bad hb h35 ht] at h; cases h; omega
                    | some t =>
                      rw [lexR_tok hb h35 ht] at h
                      obtain ⟨g1, g2, g3, g4⟩ := tokAt_pos ht
                      simp only [List.length_cons] at g3
                      have := ih _ _ (acc ++ [t]) (by rw [List.length_drop]; omega) q h
                      rw [List.length_drop] at this
                      omega
          have := this _ (L x) 0 [] (Nat.le_refl _) q hr2
          omega
        have hpl := place_eq (n := n) hx hq (by omega)
        have e2 : ((2 : Int) != 2) = false := rfl
        have e3 : ((2 : Int) != 0) = true := rfl
        have e4 : ((2 : Int) == 0) = false := rfl
        simp only [outL, e2, cond_false, bne_self_eq_false, Bool.not_false, e3, Bool.and_true, cond_true, hpl, Option.bind_some, P_refl hx, Bool.not_true, e4]
        have hl2 : l_suturelaw2_LexTells_9 n n (ints .i64 z, raw, x, [], [], ((List.length ([] : List T) : Nat) : Int), 0) = some (.inr (ints .i64 z, raw)) := by
          obtain ⟨n', rfl⟩ : ∃ n', n = n' + 1 := ⟨n - 1, by omega⟩
          rfl
        rw [hl2]
        exact rest _ rfl
      | ok l =>
        have h1 := lexR_len _ (L x) 0 [] l (Nat.le_refl _) hr2
        have h2 := lexR_pos _ (L x) 0 [] l (Nat.le_refl _) (by simp) hr2
        simp only [List.length_nil] at h1
        have e2 : ((0 : Int) != 0) = false := rfl
        have e4 : ((0 : Int) == 0) = true := rfl
        simp only [outL, e2, cond_false, List.length_map, bne_self_eq_false, Bool.not_false, Bool.and_false, Option.bind_some, e4, cond_true, zero_refl, Bool.not_true]
        have hlp := tells_loop (n := n) (s := x) (by omega) (by omega) (l ++ [(⟨4, [], 0, (L x).length⟩ : Tok)]) (by rw [List.length_append]; simp only [List.length_cons, List.length_nil]; omega) (by
          intro t ht
          simp only [List.mem_append, List.mem_singleton] at ht
          rcases ht with ht | rfl
          · have := h2 t ht; omega
          · exact Nat.le_refl _) (ints .i64 z) raw n 0 (by omega) (by rw [List.length_append]; simp only [List.length_cons, List.length_nil]; omega)
        rw [show (((0 : Nat) : Nat) : Int) = 0 from rfl] at hlp
        rw [hlp]
        exact rest _ rfl
  unfold m_suturelaw2_LexTells
  rw [hs1]
  simp only [Option.bind_some]
  cases any with
  | true =>
    simp only [cond_true]
    exact main raw (by omega) (by omega)
  | false =>
    simp only [cond_false]
    exact main s (by omega) (by omega)
theorem lexTells_law (z : List Int) (raw : ByteArray) (any : Bool) (hz : ∀ x ∈ z, (Lit.int .i64 x).wf = true) (lz : z.length ≤ 17592186044416) (hr : raw.size ≤ 140737488351232) :
    ∃ n, m_suturelaw2_LexTells n (ints .i64 z) raw any = some true := lexTells_pure z hz lz raw hr any
end Go.Proofs.YtkolhagejiabhaaDoor.W
