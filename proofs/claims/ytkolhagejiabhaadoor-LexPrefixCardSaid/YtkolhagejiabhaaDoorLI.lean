/- Chapter 2, plain: tokens stand where they say, and between them are blanks and notes alone. -/
import Derived.Test.YtkolhagejiabhaaDoorLG
namespace Go.Proofs.YtkolhagejiabhaaDoor.W
open Go Go.Eng Go.Eng.Fl
set_option linter.unusedVariables false
set_option linter.unusedSimpArgs false

/-- Places rise. -/
theorem pos_lt (l : List UInt8) {i j : Nat} (h : i < j) (hj : j ≤ l.length) : (pos (l.take i)).1 < (pos (l.take j)).1 ∨ ((pos (l.take i)).1 = (pos (l.take j)).1 ∧ (pos (l.take i)).2 < (pos (l.take j)).2) := by
  have e1 : l.take j = l.take i ++ (l.drop i).take (j - i) := by
    conv => lhs; rw [show j = i + (j - i) by omega]
    rw [List.take_add]
  rw [e1, pos_append]
  refine rises _ _ ?_ (bounds_pos _).2.2.1
  intro h0
  have := congrArg List.length h0
  rw [List.length_take, List.length_drop] at this
  simp only [List.length_nil] at this
  omega

theorem P_ne {s : ByteArray} (hs : (L s).length ≤ 281474976710656) {i j : Nat} (h : i < j) (hj : j ≤ (L s).length) : cplxEq .f64 (P s i).1 (P s i).2 (P s j).1 (P s j).2 = false := by
  obtain ⟨h1, h2⟩ := P_small hs i
  obtain ⟨h3, h4⟩ := P_small hs j
  have hlt := pos_lt (L s) h hj
  unfold cplxEq P
  simp only
  rw [eqF h1 h3, eqF h2 h4]
  rw [Bool.and_eq_false_iff, decide_eq_false_iff_not, decide_eq_false_iff_not]
  omega

/-- Between tokens: is a note open? -/
def gst (b : Bool) : List UInt8 → Option Bool
  | [] => some b
  | c :: r => if (!(c != 10 && (b || c == 35)) && !blank c) = true then none else gst (c != 10 && (b || c == 35)) r

theorem gst_append : ∀ (g h : List UInt8) (b : Bool), gst b (g ++ h) = (gst b g).bind fun b' => gst b' h
  | [], h, b => rfl
  | c :: g, h, b => by
    simp only [List.cons_append, gst]
    split
    · rfl
    · exact gst_append g h _

/-- Tokens, each behind what is between. -/
inductive Cov : Bool → List UInt8 → Nat → List Tok → Prop
  | nil {b b' : Bool} {r : List UInt8} {p : Nat} : gst b r = some b' → Cov b r p []
  | cons {b : Bool} {g r : List UInt8} {p : Nat} {t : Tok} {ts : List Tok} : gst b g = some false → t.pos = p + g.length → t.text = r.take t.text.length → t.text.length ≤ r.length → 1 ≤ t.text.length → t.kind ≠ 4 →
      Cov false (r.drop t.text.length) (t.pos + t.text.length) ts → Cov b (g ++ r) p (t :: ts)

theorem Cov.pre {b b' : Bool} {g r : List UInt8} {p : Nat} {ts : List Tok} (hg : gst b g = some b') (h : Cov b' r (p + g.length) ts) : Cov b (g ++ r) p ts := by
  cases h with
  | nil h1 => exact .nil (b' := _) (by rw [gst_append, hg]; exact h1)
  | @cons _ g2 r2 _ t ts h1 h2 h3 h4 h5 h6 h7 =>
    rw [← List.append_assoc]
    exact .cons (by rw [gst_append, hg]; exact h1) (by rw [h2, List.length_append]; omega) h3 h4 h5 h6 h7

theorem tokAt_kind {r : List UInt8} {p : Nat} {t : Tok} (h : tokAt r p = some t) : t.kind ≠ 4 := by
  unfold tokAt at h
  cases r with
  | nil => cases h
  | cons c r' =>
    simp only at h
    split at h
    · split at h
      · cases h; show (1 : Int) ≠ 4; exact (by decide)
      · cases h
    · split at h
      · split at h
        · cases h; show (2 : Int) ≠ 4; exact (by decide)
        · cases h
      · split at h
        · split at h
          · cases h; show (3 : Int) ≠ 4; exact (by decide)
          · cases h; show (3 : Int) ≠ 4; exact (by decide)
        · cases h

theorem gst_note : ∀ (l : List UInt8), (∀ c ∈ l, c ≠ 10) → gst true l = some true
  | [], _ => rfl
  | c :: r, h => by
    have hc : (c != 10) = true := by simpa using h c (by simp)
    simp only [gst, hc, Bool.true_or, Bool.and_self, Bool.not_true, Bool.false_and, Bool.false_eq_true, if_false]
    exact gst_note r (fun d hd => h d (by simp [hd]))

theorem lexR_cov : ∀ (k : Nat) (r : List UInt8) (p : Nat) (l : List Tok) (b : Bool), r.length ≤ k → (b = true → r = [] ∨ r.head? = some 10) → lexR r p [] = .ok l → Cov b r p l := by
  intro k
  induction k with
  | zero =>
    intro r p l b hr hb h
    have : r = [] := List.length_eq_zero_iff.1 (by omega)
    subst this
    rw [lexR_nil] at h; cases h
    exact .nil (b' := b) rfl
  | succ k ih =>
    intro r p l b hr hb h
    cases r with
    | nil => rw [lexR_nil] at h; cases h; exact .nil (b' := b) rfl
    | cons c r =>
      simp only [List.length_cons] at hr
      have hb10 : b = true → c = 10 := fun hh => by simpa using hb hh
      cases hbl : blank c with
      | true =>
        rw [lexR_blank hbl] at h
        have h1 := ih r (p + 1) l false (by omega) (by intro hh; cases hh) h
        have hg : gst b [c] = some false := by
          have h35 : (c == 35) = false := by
            rw [beq_eq_false_iff_ne]; intro hh; subst hh; revert hbl; decide
          cases b with
          | true =>
            have := hb10 rfl
            subst this
            rfl
          | false => simp only [gst, h35, Bool.or_self, Bool.and_false, Bool.not_false, hbl, Bool.not_true, Bool.false_eq_true, if_false]
        exact Cov.pre (g := [c]) hg h1
      | false =>
        have hb0 : b = false := by
          cases b with
          | false => rfl
          | true =>
            have := hb10 rfl
            subst this
            revert hbl; decide
        subst hb0
        by_cases h35 : c = 35
        · subst h35
          have h0 := dropWhile_le (· != 10) r
          rw [lexR_note] at h
          have h1 := ih (r.dropWhile (· != 10)) _ l true (by omega) (by
            intro _
            cases hd : r.dropWhile (· != 10) with
            | nil => exact .inl rfl
            | cons d r2 =>
              right
              have := List.head?_dropWhile_not (· != 10) r
              rw [hd] at this
              simp only [List.head?_cons, Option.some.injEq]
              simpa using this) h
          have hg : gst false (35 :: r.takeWhile (· != 10)) = some true := by
            have : gst false (35 :: r.takeWhile (· != 10)) = gst true (r.takeWhile (· != 10)) := rfl
            rw [this]
            refine gst_note _ (fun d hd => ?_)
            have := List.all_eq_true.1 (List.all_takeWhile (p := (· != 10)) (l := r)) d hd
            simpa using this
          have e : (35 : UInt8) :: r = (35 :: r.takeWhile (· != 10)) ++ r.dropWhile (· != 10) := by
            rw [List.cons_append, List.takeWhile_append_dropWhile]
          rw [e]
          refine Cov.pre hg ?_
          rw [List.length_cons, show p + ((r.takeWhile (· != 10)).length + 1) = p + 1 + (r.takeWhile (· != 10)).length by omega]
          exact h1
        · cases ht : tokAt (c :: r) p with
          | none => rw [lexR_bad hbl h35 ht] at h; cases h
          | some t =>
            rw [lexR_tok hbl h35 ht, lexR_acc _ _ _ _ (Nat.le_refl _)] at h
            obtain ⟨g1, g2, g3, g4⟩ := tokAt_pos ht
            have hd : (c :: r).drop t.text.length = r.drop (t.text.length - 1) := by
              conv => lhs; rw [show t.text.length = (t.text.length - 1) + 1 by omega]
              rfl
            cases h2 : lexR (r.drop (t.text.length - 1)) (p + t.text.length) [] with
            | bad q => rw [h2] at h; cases h
            | ok ts =>
              rw [h2] at h
              simp only [List.nil_append, List.cons_append] at h
              cases h
              refine Cov.cons (g := []) (r := c :: r) rfl (by rw [g1]; rfl) g4 g3 g2 (tokAt_kind ht) ?_
              rw [hd, g1]
              exact ih _ _ ts false (by rw [List.length_drop]; omega) (by intro hh; cases hh) h2

section
variable {s : ByteArray} {n : Nat}

theorem inner_loop (hs : (L s).length ≤ 6000) (hn : 6001 < n) {q : Nat} (hq : q ≤ (L s).length) (li : List T) (a5 a6 : Int) (k : Int) (tx : ByteArray) (nu : Int) : ∀ (g : List UInt8) (m i : Nat) (b b' : Bool) (rest : List UInt8), i + g.length = q → (L s).drop i = g ++ rest → gst b g = some b' → g.length < m →
    l_suturelaw2_LexCovers_12 n m (s, (i : Int), b, li, a5, a6, k, tx, nu, P s q) = some (.inr (s, (q : Int), b', li, a5, a6, k, tx, nu, P s q)) := by
  intro g
  induction g with
  | nil =>
    intro m i b b' rest hi hd hg hm
    obtain ⟨m, rfl⟩ : ∃ m', m = m' + 1 := ⟨m - 1, by omega⟩
    simp only [gst, Option.some.injEq] at hg
    subst hg
    simp only [List.length_nil, Nat.add_zero] at hi
    subst hi
    rw [l_suturelaw2_LexCovers_12]
    unfold l_suturelaw2_LexCovers_12_B
    simp only
    by_cases hlt : i < (L s).length
    · rw [decide_eq_true (show (i : Int) < ((ByteArray.size s : Nat) : Int) by rw [size_L]; omega)]
      simp only [cond_true]
      rw [place_eq (by omega) hq (by omega)]
      simp only [Option.bind_some, P_refl (show (L s).length ≤ 281474976710656 by omega), Bool.not_true, cond_false]
    · rw [decide_eq_false (show ¬ (i : Int) < ((ByteArray.size s : Nat) : Int) by rw [size_L]; omega)]
      rfl
  | cons c g ih =>
    intro m i b b' rest hi hd hg hm
    obtain ⟨m, rfl⟩ : ∃ m', m = m' + 1 := ⟨m - 1, by omega⟩
    simp only [List.length_cons] at hi hm
    have hlt : i < (L s).length := by omega
    have hdrop := List.drop_eq_getElem_cons hlt
    rw [hd, List.cons_append] at hdrop
    injection hdrop with hc hd2
    rw [l_suturelaw2_LexCovers_12]
    unfold l_suturelaw2_LexCovers_12_B
    simp only
    rw [decide_eq_true (show (i : Int) < ((ByteArray.size s : Nat) : Int) by rw [size_L]; omega)]
    simp only [cond_true]
    rw [place_eq (by omega) (by omega) (by omega)]
    simp only [Option.bind_some, P_ne (show (L s).length ≤ 281474976710656 by omega) (show i < q by omega) hq, Bool.not_false, cond_true, bidx_at hlt]
    rw [← hc]
    have e10 : (((UInt8.toNat c : Nat) : Int) != 10) = (c != 10) := by simp only [bne, beq_byte c 10 10 rfl]
    have e35 : ((((UInt8.toNat c : Nat) : Int) : Int) == 35) = (c == 35) := beq_byte c 35 35 rfl
    have e32 : (((UInt8.toNat c : Nat) : Int) != 32) = (c != 32) := by simp only [bne, beq_byte c 32 32 rfl]
    have e9 : (((UInt8.toNat c : Nat) : Int) != 9) = (c != 9) := by simp only [bne, beq_byte c 9 9 rfl]
    simp only [e10, e35, e32, e9]
    have enote : (bif (c != 10) then (bif b then true else (c == 35)) else false) = (c != 10 && (b || c == 35)) := by
      cases (c != 10) <;> cases b <;> rfl
    rw [enote]
    simp only [gst] at hg
    have ebad : (bif (bif (bif (!(c != 10 && (b || c == 35))) then (c != 32) else false) then (c != 9) else false) then (c != 10) else false) = (!(c != 10 && (b || c == 35)) && !blank c) := by
      unfold blank
      cases (c != 10 && (b || c == 35)) with
      | true => rfl
      | false =>
        simp only [bne, Bool.not_false, cond_true, Bool.true_and, Bool.not_or]
        cases (c == 32) <;> cases (c == 9) <;> cases (c == 10) <;> rfl
    rw [ebad]
    split at hg
    · cases hg
    · rename_i hno
      rw [(Bool.not_eq_true _).mp hno]
      simp only [cond_false]
      rw [wrap_up (show i ≤ 281474976710656 by omega)]
      exact ih m (i + 1) _ b' rest (by omega) hd2.symm hg (by omega)

theorem idx_L {l : List Tok} {i : Nat} (h : i < l.length) : idx true [.int .i64, .str, .int .i64, .cplx .f64] (l.map (encL s)) (i : Int) = some (encL s l[i]) := by
  have h0 : decide ((0 : Int) ≤ (i : Int)) = true := by simp
  simp only [idx, cond_true, h0, Int.toNat_natCast, List.getElem?_map, List.getElem?_eq_getElem h, Option.map_some]
  rfl

theorem outer_loop (hs : (L s).length ≤ 6000) (hn : 12010 < n) (all : List Tok) (hall : all.length ≤ 6001) : ∀ (m : Nat) (l : List Tok) (at_ i : Nat) (b : Bool), all.drop i = l ++ [(⟨4, [], 0, (L s).length⟩ : Tok)] → Cov b ((L s).drop at_) at_ l → at_ ≤ (L s).length → l.length + 1 < m →
    l_suturelaw2_LexCovers_10 n m (s, (at_ : Int), b, all.map (encL s), (all.length : Int), (i : Int)) = some (.inr (s, ((L s).length : Int))) := by
  intro m
  induction m with
  | zero => intro l at_ i b _ _ _ h; omega
  | succ m ih =>
    intro l at_ i b hdr hcov hat hm
    have hi : i < all.length := by
      by_cases hi : i < all.length
      · exact hi
      · rw [List.drop_eq_nil_of_le (by omega)] at hdr
        exact absurd hdr.symm (by simp)
    rw [l_suturelaw2_LexCovers_10]
    unfold l_suturelaw2_LexCovers_10_B
    simp only
    rw [decide_eq_true (show (i : Int) < (all.length : Int) by omega)]
    simp only [cond_true, idx_L hi, Option.bind_some]
    have hcons := List.drop_eq_getElem_cons hi
    rw [hdr] at hcons
    have k1 : ((encL s all[i]).cell 0).int = all[i].kind := rfl
    have t1 : ((encL s all[i]).cell 1).str = B all[i].text := rfl
    have n1 : ((encL s all[i]).cell 2).int = (all[i].num : Int) := rfl
    have p1 : ((encL s all[i]).cell 3).re = (P s all[i].pos).1 := rfl
    have p2 : ((encL s all[i]).cell 3).im = (P s all[i].pos).2 := rfl
    simp only [k1, t1, n1, p1, p2]
    rw [show ((P s all[i].pos).1, (P s all[i].pos).2) = P s all[i].pos from rfl]
    have e0 : L (⟨#[]⟩ : ByteArray) = [] := rfl
    generalize hat' : (L s).drop at_ = rr at hcov
    cases hcov with
    | nil hg =>
      rename_i b'
      simp only [List.nil_append, List.cons.injEq] at hcons
      obtain ⟨ht, hrest⟩ := hcons
      rw [← ht]
      simp only
      have hlen := congrArg List.length hat'
      rw [List.length_drop] at hlen
      rw [inner_loop hs (by omega) (Nat.le_refl _) _ _ _ _ _ _ rr n at_ b b' [] (by omega) (by rw [hat', List.append_nil]) hg (by omega)]
      simp only [Option.bind_some, Sum.elim_inr]
      have e4 : ((4 : Int) != 4) = false := rfl
      have eB : (ByteArray.size (B []) : Nat) = 0 := rfl
      have ew : IntKind.wrap .i64 (((L s).length : Int) + ((0 : Nat) : Int)) = ((L s).length : Int) := by rw [wrap_id (by omega) (by omega)]; omega
      have ew2 : IntKind.wrap .i64 (((ByteArray.size s : Nat) : Int) - ((L s).length : Int)) = 0 := by rw [size_L, wrap_id (by omega) (by omega)]; omega
      have enote : (bif b' then false else false) = false := by cases b' <;> rfl
      simp only [e4, eB, ew, ew2, enote, cond_false, bytes_eq, L_B, e0]
      have ed : decide ((0 : Int) < ((0 : Nat) : Int)) = false := rfl
      rw [ed]
      rw [must_eq (by rw [size_L]; simp only [Bool.and_eq_true, decide_eq_true_eq]; omega)]
      have ex : L (s.extract (Int.toNat ((L s).length : Int)) (Int.toNat ((L s).length : Int))) = [] := by
        rw [ext_B, L_B]; simp
      rw [ex]
      simp only [BEq.rfl, Bool.not_true, cond_false, Bool.not_false, cond_true]
      rw [wrap_up (show i ≤ 281474976710656 by omega)]
      have hend : all.length = i + 1 := by
        have := congrArg List.length hrest
        rw [List.length_drop] at this
        simp only [List.length_nil] at this
        omega
      obtain ⟨m, rfl⟩ : ∃ m', m = m' + 1 := ⟨m - 1, by simp only [List.length_nil] at hm; omega⟩
      rw [l_suturelaw2_LexCovers_10]
      unfold l_suturelaw2_LexCovers_10_B
      simp only
      rw [decide_eq_false (show ¬ ((i + 1 : Nat) : Int) < (all.length : Int) by omega)]
      rfl
    | @cons _ g r _ t ts h1 h2 h3 h4 h5 h6 h7 =>
      simp only [List.cons_append, List.cons.injEq] at hcons
      obtain ⟨ht, hrest⟩ := hcons
      rw [← ht]
      have hlen := congrArg List.length hat'
      rw [List.length_drop, List.length_append] at hlen
      have hdt : (L s).drop t.pos = r := by
        have := congrArg (List.drop g.length) hat'
        rw [List.drop_drop, List.drop_left] at this
        rw [h2]; exact this
      rw [inner_loop hs (by omega) (show t.pos ≤ (L s).length by omega) _ _ _ _ _ _ g n at_ b false r (by omega) hat' h1 (by omega)]
      simp only [Option.bind_some, Sum.elim_inr, cond_false]
      have eB : (ByteArray.size (B t.text) : Nat) = t.text.length := by rw [size_L, L_B]
      have ew : IntKind.wrap .i64 ((t.pos : Int) + ((t.text.length : Nat) : Int)) = ((t.pos + t.text.length : Nat) : Int) := wrap_add (by omega) (by omega)
      have ew2 : IntKind.wrap .i64 (((ByteArray.size s : Nat) : Int) - (t.pos : Int)) = (((L s).length - t.pos : Nat) : Int) := by rw [size_L, wrap_id (by omega) (by omega)]; omega
      simp only [eB, ew, ew2, bytes_eq, L_B, e0]
      rw [decide_eq_false (show ¬ (((L s).length - t.pos : Nat) : Int) < ((t.text.length : Nat) : Int) by omega)]
      rw [must_eq (by rw [size_L]; simp only [Bool.and_eq_true, decide_eq_true_eq]; omega)]
      have ex : L (s.extract (Int.toNat (t.pos : Int)) (Int.toNat ((t.pos + t.text.length : Nat) : Int))) = t.text := by
        rw [ext_B, L_B, Int.toNat_natCast, Int.toNat_natCast, hdt, show t.pos + t.text.length - t.pos = t.text.length by omega]
        exact h3.symm
      rw [ex]
      have ek : (t.kind != 4) = true := by simpa using h6
      have et : (t.text == ([] : List UInt8)) = false := by
        rw [beq_eq_false_iff_ne]; intro hh; rw [hh] at h5; simp at h5
      simp only [BEq.rfl, Bool.not_true, cond_false, ek, et, Bool.not_false]
      rw [wrap_up (show i ≤ 281474976710656 by omega)]
      refine ih ts (t.pos + t.text.length) (i + 1) false hrest.symm ?_ (by omega) (by simp only [List.length_cons] at hm; omega)
      rw [← List.drop_drop, hdt]
      exact h7
end

/-- LexCovers: THE PLAIN LAW. -/
theorem lexCovers_law (z : List Int) (raw : ByteArray) (hz : ∀ x ∈ z, (Lit.int .i64 x).wf = true) (lz : z.length ≤ 17592186044416) (hr : raw.size ≤ 140737488351232) :
    ∃ n, m_suturelaw2_LexCovers n (ints .i64 z) raw = some true := by
  refine ⟨20001 + 11 * z.length + raw.size + 1000, ?_⟩
  generalize hN : 20001 + 11 * z.length + raw.size + 1000 = n
  obtain ⟨s, hs1, hs2⟩ := text_ok (n := n) (z := z) raw lz (by omega)
  have hs : (L s).length ≤ 281474976710656 := by omega
  unfold m_suturelaw2_LexCovers
  rw [hs1]
  simp only [Option.bind_some]
  rw [tokens_eq hs (by omega)]
  simp only [Option.bind_some, kn]
  unfold toksL
  by_cases h6 : 6000 < (L s).length
  · rw [if_pos h6]; rfl
  · rw [if_neg h6]
    cases hr2 : lexR (L s) 0 [] with
    | bad q => rfl
    | ok l =>
      have h1 := lexR_len _ (L s) 0 [] l (Nat.le_refl _) hr2
      simp only [List.length_nil] at h1
      have hcov := lexR_cov _ (L s) 0 l false (Nat.le_refl _) (by intro hh; cases hh) hr2
      have e0 : ((0 : Int) != 0) = false := rfl
      simp only [outL, e0, cond_false, Bool.not_true]
      have hl : (List.length ((l ++ [(⟨4, [], 0, (L s).length⟩ : Tok)]).map (encL s)) : Nat) = l.length + 1 := by simp
      rw [hl]
      have ew : IntKind.wrap .i64 (((l.length + 1 : Nat) : Int) - 1) = (l.length : Int) := by rw [wrap_id (by omega) (by omega)]; omega
      have el : (((l.length + 1 : Nat) : Int) == 0) = false := by rw [beq_eq_false_iff_ne]; omega
      have hlast : idx true [.int .i64, .str, .int .i64, .cplx .f64] ((l ++ [(⟨4, [], 0, (L s).length⟩ : Tok)]).map (encL s)) (l.length : Int) = some (encL s ⟨4, [], 0, (L s).length⟩) := by
        have := idx_L (s := s) (l := l ++ [(⟨4, [], 0, (L s).length⟩ : Tok)]) (i := l.length) (by simp)
        rw [this]; simp
      have k1 : ((encL s ⟨4, [], 0, (L s).length⟩).cell 0).int = 4 := rfl
      have p1 : ((encL s ⟨4, [], 0, (L s).length⟩).cell 3).re = (P s (L s).length).1 := rfl
      have p2 : ((encL s ⟨4, [], 0, (L s).length⟩).cell 3).im = (P s (L s).length).2 := rfl
      have e4 : ((4 : Int) != 4) = false := rfl
      simp only [ew, el, Bool.not_false, hlast, Option.bind_some, k1, e4, cond_true, cond_false, p1, p2]
      have hpl : m_sutureref1_Place n s ((ByteArray.size s : Nat) : Int) = some (P s (L s).length) := by
        rw [size_L]; exact place_eq hs (Nat.le_refl _) (by omega)
      simp only [hpl, Option.bind_some, P_refl hs, Bool.not_true, cond_false]
      have hlo := outer_loop (s := s) (n := n) (by omega) (by omega) (l ++ [(⟨4, [], 0, (L s).length⟩ : Tok)]) (by rw [List.length_append]; simp only [List.length_cons, List.length_nil]; omega) n l 0 0 false rfl (by rw [List.drop_zero]; exact hcov) (by omega) (by omega)
      rw [List.length_append] at hlo
      simp only [List.length_cons, List.length_nil] at hlo
      rw [show (((0 : Nat) : Nat) : Int) = 0 from rfl] at hlo
      have hlo' : l_suturelaw2_LexCovers_10 n n (s, 0, false, (l ++ [(⟨4, [], 0, (L s).length⟩ : Tok)]).map (encL s), ((l.length + 1 : Nat) : Int), 0) = some (.inr (s, ((L s).length : Int))) := hlo
      rw [hlo']
      simp only [Option.bind_some, Sum.elim_inr, size_L]
      rw [beq_iff_eq.2 rfl]
end Go.Proofs.YtkolhagejiabhaaDoor.W
