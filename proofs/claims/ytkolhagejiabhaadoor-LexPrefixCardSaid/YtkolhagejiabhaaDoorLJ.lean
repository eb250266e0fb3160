/- Chapter 2, plain: the tokens of a text, and of what is behind a blank, make those of both. -/
import Derived.Test.YtkolhagejiabhaaDoorLG
import Derived.Test.YtkolhagejiabhaaDoorLI
import Derived.Test.YtkolhagejiabhaaDoorLK
namespace Go.Proofs.YtkolhagejiabhaaDoor.W
open Go Go.Eng Go.Eng.Fl
set_option linter.unusedVariables false
set_option linter.unusedSimpArgs false

theorem tw_app {f : UInt8 → Bool} (hf : f 10 = false) (T : List UInt8) : ∀ (r : List UInt8), (r ++ 10 :: T).takeWhile f = r.takeWhile f ∧ (r ++ 10 :: T).dropWhile f = r.dropWhile f ++ 10 :: T
  | [] => by simp [hf]
  | c :: r => by
    obtain ⟨h1, h2⟩ := tw_app hf T r
    rw [List.cons_append]
    cases h : f c with
    | true => rw [List.takeWhile_cons_of_pos h, List.takeWhile_cons_of_pos h, List.dropWhile_cons_of_pos h, List.dropWhile_cons_of_pos h, h1, h2]; exact ⟨rfl, rfl⟩
    | false =>
      have h' : ¬ f c = true := by rw [h]; simp
      rw [List.takeWhile_cons_of_neg h', List.takeWhile_cons_of_neg h', List.dropWhile_cons_of_neg h', List.dropWhile_cons_of_neg h']; exact ⟨rfl, rfl⟩

theorem tokAt_app (c : UInt8) (r T : List UInt8) (p : Nat) : tokAt (c :: r ++ 10 :: T) p = tokAt (c :: r) p := by
  unfold tokAt
  simp only [List.cons_append]
  have h1 := (tw_app (f := isLD) (by decide) T (c :: r)).1
  have h2 := (tw_app (f := isD) (by decide) T (c :: r)).1
  rw [List.cons_append] at h1 h2
  rw [h1, h2]
  have h3 : (c = 61 ∧ (r ++ 10 :: T).head? = some 61) ↔ (c = 61 ∧ r.head? = some 61) := by
    cases r with
    | nil => simp
    | cons d r => simp
  by_cases h4 : c = 61 ∧ r.head? = some 61
  · rw [if_pos h4, if_pos (h3.2 h4)]
  · rw [if_neg h4, if_neg (fun h => h4 (h3.1 h))]

/-- A text, and what is behind a line's end. -/
theorem lexR_app (T : List UInt8) : ∀ (k : Nat) (r : List UInt8) (p : Nat) (acc : List Tok), r.length ≤ k → lexR (r ++ 10 :: T) p acc = match lexR r p acc with
    | .ok l => lexR T (p + r.length + 1) l
    | .bad q => .bad q := by
  intro k
  induction k with
  | zero =>
    intro r p acc hr
    have : r = [] := List.length_eq_zero_iff.1 (by omega)
    subst this
    rw [List.nil_append, lexR_nil, lexR_blank (by decide)]; rfl
  | succ k ih =>
    intro r p acc hr
    cases r with
    | nil => rw [List.nil_append, lexR_nil, lexR_blank (by decide)]; rfl
    | cons c r =>
      simp only [List.length_cons] at hr
      cases hb : blank c with
      | true =>
        rw [List.cons_append, lexR_blank hb, lexR_blank hb, ih r _ acc (by omega)]
        rw [List.length_cons, show p + 1 + r.length + 1 = p + (r.length + 1) + 1 by omega]
      | false =>
        by_cases h35 : c = 35
        · subst h35
          have h0 := dropWhile_le (· != 10) r
          have h1 := congrArg List.length (List.takeWhile_append_dropWhile (p := (· != 10)) (l := r))
          rw [List.length_append] at h1
          obtain ⟨e1, e2⟩ := tw_app (f := (· != 10)) (by decide) T r
          rw [List.cons_append, lexR_note, lexR_note, e1, e2, ih _ _ acc (by omega)]
          rw [List.length_cons, show p + 1 + (r.takeWhile (· != 10)).length + (r.dropWhile (· != 10)).length + 1 = p + (r.length + 1) + 1 by omega]
        · have ha := tokAt_app c r T p
          rw [List.cons_append] at ha
          cases ht : tokAt (c :: r) p with
          | none => rw [List.cons_append, lexR_bad hb h35 ht, lexR_bad hb h35 (by rw [ha]; exact ht)]
          | some t =>
            obtain ⟨g1, g2, g3, g4⟩ := tokAt_pos ht
            simp only [List.length_cons] at g3
            rw [List.cons_append, lexR_tok hb h35 ht, lexR_tok hb h35 (by rw [ha]; exact ht)]
            rw [List.drop_append_of_le_length (by omega), ih _ _ (acc ++ [t]) (by rw [List.length_drop]; omega)]
            rw [List.length_drop, List.length_cons, show p + t.text.length + (r.length - (t.text.length - 1)) + 1 = p + (r.length + 1) + 1 by omega]

def sh (d : Nat) (t : Tok) : Tok := ⟨t.kind, t.text, t.num, t.pos + d⟩

theorem tokAt_sh (d : Nat) (r : List UInt8) (p : Nat) : tokAt r (p + d) = (tokAt r p).map (sh d) := by
  unfold tokAt
  cases r with
  | nil => rfl
  | cons c r =>
    simp only
    split
    · split <;> rfl
    · split
      · split <;> rfl
      · split
        · split <;> rfl
        · rfl

theorem lexR_sh (d : Nat) : ∀ (k : Nat) (r : List UInt8) (p : Nat) (acc : List Tok), r.length ≤ k → lexR r (p + d) (acc.map (sh d)) = match lexR r p acc with
    | .ok l => .ok (l.map (sh d))
    | .bad q => .bad (q + d) := by
  intro k
  induction k with
  | zero =>
    intro r p acc hr
    have : r = [] := List.length_eq_zero_iff.1 (by omega)
    subst this
    rw [lexR_nil, lexR_nil]
  | succ k ih =>
    intro r p acc hr
    cases r with
    | nil => rw [lexR_nil, lexR_nil]
    | cons c r =>
      simp only [List.length_cons] at hr
      cases hb : blank c with
      | true => rw [lexR_blank hb, lexR_blank hb, show p + d + 1 = p + 1 + d by omega, ih r _ acc (by omega)]
      | false =>
        by_cases h35 : c = 35
        · subst h35
          have h0 := dropWhile_le (· != 10) r
          rw [lexR_note, lexR_note, show p + d + 1 + (r.takeWhile (· != 10)).length = p + 1 + (r.takeWhile (· != 10)).length + d by omega, ih _ _ acc (by omega)]
        · have ha := tokAt_sh d (c :: r) p
          cases ht : tokAt (c :: r) p with
          | none => rw [ht] at ha; rw [lexR_bad hb h35 ht, lexR_bad hb h35 ha]
          | some t =>
            rw [ht] at ha
            have e : acc.map (sh d) ++ [sh d t] = (acc ++ [t]).map (sh d) := by simp
            rw [lexR_tok hb h35 ht, lexR_tok hb h35 ha, e, show p + d + (sh d t).text.length = p + t.text.length + d by show p + d + t.text.length = _; omega]
            exact ih _ _ (acc ++ [t]) (by rw [List.length_drop]; omega)

/-- Both at once. -/
theorem lexR_both (S T : List UInt8) : lexR (S ++ 10 :: T) 0 [] = match lexR S 0 [] with
    | .bad q => .bad q
    | .ok l => match lexR T 0 [] with
      | .bad q => .bad (q + (S.length + 1))
      | .ok l2 => .ok (l ++ l2.map (sh (S.length + 1))) := by
  rw [lexR_app T _ S 0 [] (Nat.le_refl _)]
  cases lexR S 0 [] with
  | bad q => rfl
  | ok l =>
    simp only
    rw [lexR_acc _ T _ l (Nat.le_refl _)]
    have := lexR_sh (S.length + 1) _ T 0 [] (Nat.le_refl _)
    rw [List.map_nil] at this
    rw [show 0 + S.length + 1 = 0 + (S.length + 1) by omega, this]
    cases lexR T 0 [] with
    | bad q => rfl
    | ok l2 => rfl

theorem of_some (n : Nat) (s : ByteArray) (k : Nat) (hs : s.size ≤ 4611686018427387903) (hk : k ≤ s.size) :
    ∃ r, m_place_Of n s k = some r := by
  unfold m_place_Of
  rw [ite_clamp _ _ (by omega)]
  have e0 : max 0 (min ((s.size : Nat) : Int) (k : Int)) = (k : Int) := by omega
  rw [e0]
  rw [must_eq (by simp only [Bool.and_eq_true, decide_eq_true_eq]; omega)]
  have hl : (s.extract (Int.toNat 0) (Int.toNat (k : Int))).data.toList = s.data.toList.take k := by
    rw [extract_list]; simp
  have hsz : (s.extract (Int.toNat 0) (Int.toNat (k : Int))).size = k := by
    rw [size_list, hl, List.length_take, ← size_list]; omega
  simp only [must, Bool.not_true, Bool.and_false, cond_false, m_strings_Count, m_strings_LastIndexByte, cntM, lastM, hl]
  have hc : (⟨#[10]⟩ : ByteArray).data.toList = [10] := rfl
  simp only [hc, Option.bind_some, hsz]
  rw [decide_eq_true (show k < 4611686018427387904 by omega)]
  exact ⟨_, rfl⟩

theorem tokens_some {s : ByteArray} {n : Nat} (hs : (L s).length ≤ 4611686018427387903) (h : 6000 < (L s).length) : ∃ r, m_lex_Tokens n s = some r := by
  unfold m_lex_Tokens
  rw [decide_eq_true (show ((ByteArray.size s : Nat) : Int) > 6000 by rw [size_L]; omega)]
  obtain ⟨r, hr⟩ := of_some n s 6000 (by rw [size_L]; exact hs) (by rw [size_L]; omega)
  have e : ((6000 : Nat) : Int) = 6000 := by omega
  rw [e] at hr
  simp only [cond_true, hr, Option.bind_some]
  exact ⟨_, rfl⟩

section
variable {n : Nat} {s t w : ByteArray} {la lb : List Tok}

theorem prefix_loop (hs : (L w).length ≤ 6000) (hw : L w = L s ++ 10 :: L t) (hla : ∀ x ∈ la, x.pos ≤ (L s).length) (hal : la.length ≤ 6000) (hbl : lb.length ≤ 6000) (d : Nat) (eb : Tok) : ∀ (m i : Nat), i ≤ la.length + lb.length + 1 → la.length + lb.length + 1 - i < m →
    l_suturelaw2_LexPrefix_13 n m ((la ++ [eb]).map (encL s), (lb ++ [(⟨4, [], 0, (L t).length⟩ : Tok)]).map (encL t), (la ++ lb.map (sh d) ++ [(⟨4, [], 0, (L w).length⟩ : Tok)]).map (encL w), ((la.length + lb.length + 1 : Nat) : Int), (i : Int)) = some (.inr ()) := by
  intro m
  induction m with
  | zero => intro i hi hm; omega
  | succ m ih =>
    intro i hi hm
    rw [l_suturelaw2_LexPrefix_13]
    unfold l_suturelaw2_LexPrefix_13_B
    simp only
    by_cases hlt : i < la.length + lb.length + 1
    · rw [decide_eq_true (show (i : Int) < ((la.length + lb.length + 1 : Nat) : Int) by omega)]
      have hc : i < (la ++ lb.map (sh d) ++ [(⟨4, [], 0, (L w).length⟩ : Tok)]).length := by simp; omega
      simp only [cond_true, idx_L hc, Option.bind_some]
      have hlen : (List.length ((la ++ [eb]).map (encL s)) : Nat) = la.length + 1 := by simp
      rw [hlen]
      have ew : IntKind.wrap .i64 (((la.length + 1 : Nat) : Int) - 1) = (la.length : Int) := by rw [wrap_id (by omega) (by omega)]; omega
      rw [ew]
      have ih' := ih (i + 1) (by omega) (by omega)
      by_cases hA : i < la.length
      · rw [decide_eq_true (show (i : Int) < (la.length : Int) by omega)]
        have ha : i < (la ++ [eb]).length := by simp; omega
        simp only [cond_true, idx_L ha, Option.bind_some]
        have e1 : (la ++ lb.map (sh d) ++ [(⟨4, [], 0, (L w).length⟩ : Tok)])[i] = la[i] := by
          rw [List.getElem_append_left (by simp; omega), List.getElem_append_left hA]
        have e2 : (la ++ [eb])[i] = la[i] := List.getElem_append_left hA
        rw [e1, e2]
        have hpos := hla _ (List.getElem_mem hA)
        have hP : encL w la[i] = encL s la[i] := by
          unfold encL P
          rw [hw, List.take_append_of_le_length hpos]
        rw [hP]
        have k1 : ((encL s la[i]).cell 0).int = la[i].kind := rfl
        have t1 : ((encL s la[i]).cell 1).str = B la[i].text := rfl
        have n1 : ((encL s la[i]).cell 2).int = (la[i].num : Int) := rfl
        have p1 : ((encL s la[i]).cell 3).re = (P s la[i].pos).1 := rfl
        have p2 : ((encL s la[i]).cell 3).im = (P s la[i].pos).2 := rfl
        simp only [k1, t1, n1, p1, p2]
        have hsl : (L s).length ≤ 281474976710656 := by
          have := congrArg List.length hw
          rw [List.length_append] at this
          omega
        rw [tok_same _ _ _ _ _ (P_refl hsl _)]
        simp only [Option.bind_some, cond_false]
        rw [wrap_up (show i ≤ 281474976710656 by omega)]
        exact ih'
      · rw [decide_eq_false (show ¬ (i : Int) < (la.length : Int) by omega)]
        have ew1 : IntKind.wrap .i64 ((i : Int) - ((la.length + 1 : Nat) : Int)) = (i : Int) - ((la.length + 1 : Nat) : Int) := wrap_id (by omega) (by omega)
        have ew2 : IntKind.wrap .i64 (((i : Int) - ((la.length + 1 : Nat) : Int)) + 1) = ((i - la.length : Nat) : Int) := by rw [wrap_id (by omega) (by omega)]; omega
        have hb : i - la.length < (lb ++ [(⟨4, [], 0, (L t).length⟩ : Tok)]).length := by simp; omega
        simp only [cond_false, ew1, ew2, idx_L hb, Option.bind_some]
        have key : ∃ x y : Tok, (la ++ lb.map (sh d) ++ [(⟨4, [], 0, (L w).length⟩ : Tok)])[i] = x ∧ (lb ++ [(⟨4, [], 0, (L t).length⟩ : Tok)])[i - la.length] = y ∧ x.kind = y.kind ∧ x.text = y.text ∧ x.num = y.num := by
          refine ⟨_, _, rfl, rfl, ?_⟩
          by_cases hB : i - la.length < lb.length
          · have e1 : (la ++ lb.map (sh d) ++ [(⟨4, [], 0, (L w).length⟩ : Tok)])[i] = sh d lb[i - la.length] := by
              rw [List.getElem_append_left (by simp; omega), List.getElem_append_right (by omega), List.getElem_map]
            have e2 : (lb ++ [(⟨4, [], 0, (L t).length⟩ : Tok)])[i - la.length] = lb[i - la.length] := List.getElem_append_left hB
            rw [e1, e2]
            exact ⟨rfl, rfl, rfl⟩
          · have e1 : (la ++ lb.map (sh d) ++ [(⟨4, [], 0, (L w).length⟩ : Tok)])[i] = (⟨4, [], 0, (L w).length⟩ : Tok) := by
              rw [List.getElem_append_right (by simp; omega)]; simp
            have e2 : (lb ++ [(⟨4, [], 0, (L t).length⟩ : Tok)])[i - la.length] = (⟨4, [], 0, (L t).length⟩ : Tok) := by
              rw [List.getElem_append_right (by omega)]; simp
            rw [e1, e2]
            exact ⟨rfl, rfl, rfl⟩
        obtain ⟨x, y, hx, hy, q1, q2, q3⟩ := key
        rw [hx, hy]
        have k1 : ((encL w x).cell 0).int = x.kind := rfl
        have t1 : ((encL w x).cell 1).str = B x.text := rfl
        have n1 : ((encL w x).cell 2).int = (x.num : Int) := rfl
        have k2 : ((encL t y).cell 0).int = y.kind := rfl
        have t2 : ((encL t y).cell 1).str = B y.text := rfl
        have n2 : ((encL t y).cell 2).int = (y.num : Int) := rfl
        simp only [k1, t1, n1, k2, t2, n2, q1, q2, q3, bne_self_eq_false, BEq.rfl, Bool.not_true, cond_false]
        rw [wrap_up (show i ≤ 281474976710656 by omega)]
        exact ih'
    · rw [decide_eq_false (show ¬ (i : Int) < ((la.length + lb.length + 1 : Nat) : Int) by omega)]
      rfl
end

theorem L_app (a b : ByteArray) : L (a ++ b) = L a ++ L b := by simp [L]

/-- LexPrefix: THE PLAIN LAW. -/
theorem lexPrefix_law (z y : List Int) (raw : ByteArray) (hz : ∀ x ∈ z, (Lit.int .i64 x).wf = true) (lz : z.length ≤ 17592186044416) (hy : ∀ x ∈ y, (Lit.int .i64 x).wf = true) (ly : y.length ≤ 17592186044416) (hr : raw.size ≤ 140737488351232) :
    ∃ n, m_suturelaw2_LexPrefix n (ints .i64 z) (ints .i64 y) raw = some true := by
  refine ⟨20001 + 11 * z.length + 11 * y.length + raw.size + 1000, ?_⟩
  generalize hN : 20001 + 11 * z.length + 11 * y.length + raw.size + 1000 = n
  obtain ⟨s, hs1, hs2⟩ := text_ok (n := n) (z := z) (⟨#[]⟩ : ByteArray) lz (by omega)
  obtain ⟨t, ht1, ht2⟩ := text_ok (n := n) (z := y) raw ly (by omega)
  have hs : (L s).length ≤ 281474976710656 := by omega
  have ht : (L t).length ≤ 281474976710656 := by omega
  unfold m_suturelaw2_LexPrefix
  rw [hs1]
  simp only [Option.bind_some]
  rw [ht1]
  simp only [Option.bind_some]
  rw [tokens_eq hs (by omega), tokens_eq ht (by omega)]
  rw [Option.bind_some, Option.bind_some]
  have hw : L ((s ++ (⟨#[10]⟩ : ByteArray)) ++ t) = L s ++ 10 :: L t := by
    rw [L_app, L_app]
    have : L (⟨#[10]⟩ : ByteArray) = [10] := rfl
    rw [this]; simp
  have e1 : (⟨#[10]⟩ : ByteArray).size = 1 := rfl
  rw [must_eq (by rw [decide_eq_true_eq, maxI, e1, size_L]; omega)]
  rw [must_eq (by rw [decide_eq_true_eq, maxI, size_L, L_app, List.length_append, size_L]; have : (L (⟨#[10]⟩ : ByteArray)).length = 1 := rfl; omega)]
  have hwl : (L ((s ++ (⟨#[10]⟩ : ByteArray)) ++ t)).length = (L s).length + (L t).length + 1 := by
    rw [hw, List.length_append, List.length_cons]; omega
  have etot : IntKind.wrap .i64 ((IntKind.wrap .i64 (((ByteArray.size s : Nat) : Int) + ((ByteArray.size t : Nat) : Int))) + 1) = (((L s).length + (L t).length + 1 : Nat) : Int) := by
    rw [size_L, size_L, wrap_id (show -9223372036854775808 ≤ ((L s).length : Int) + ((L t).length : Int) by omega) (by omega), wrap_id (by omega) (by omega)]; omega
  rw [etot]
  by_cases h6 : 6000 < (L s).length + (L t).length + 1
  · obtain ⟨r, hr2⟩ := tokens_some (n := n) (s := (s ++ (⟨#[10]⟩ : ByteArray)) ++ t) (by omega) (by omega)
    rw [hr2, Option.bind_some]
    rw [decide_eq_true (show (((L s).length + (L t).length + 1 : Nat) : Int) > 6000 by omega), cond_true, kn]
    rfl
  · rw [decide_eq_false (show ¬ (((L s).length + (L t).length + 1 : Nat) : Int) > 6000 by omega)]
    rw [tokens_eq (show (L ((s ++ (⟨#[10]⟩ : ByteArray)) ++ t)).length ≤ 281474976710656 by omega) (by omega)]
    rw [Option.bind_some, cond_false, kn]
    simp only [Option.bind_some]
    unfold toksL
    rw [if_neg (show ¬ 6000 < (L s).length by omega), if_neg (show ¬ 6000 < (L t).length by omega), if_neg (show ¬ 6000 < (L ((s ++ (⟨#[10]⟩ : ByteArray)) ++ t)).length by omega)]
    generalize hwg : (s ++ (⟨#[10]⟩ : ByteArray)) ++ t = w at *
    rw [show lexR (L w) 0 [] = lexR (L s ++ 10 :: L t) 0 [] by rw [hw], lexR_both]
    cases hls : lexR (L s) 0 [] with
    | bad q => rfl
    | ok la =>
      cases hlt : lexR (L t) 0 [] with
      | bad q => rfl
      | ok lb =>
        have h1 := lexR_len _ (L s) 0 [] la (Nat.le_refl _) hls
        have h2 := lexR_len _ (L t) 0 [] lb (Nat.le_refl _) hlt
        have h3 := lexR_pos _ (L s) 0 [] la (Nat.le_refl _) (by simp) hls
        simp only [List.length_nil] at h1 h2
        have e0 : ((0 : Int) != 0) = false := rfl
        simp only [outL, e0, cond_false, Bool.not_true]
        have l1 : (List.length ((la ++ [(⟨4, [], 0, (L s).length⟩ : Tok)]).map (encL s)) : Nat) = la.length + 1 := by simp
        have l2 : (List.length ((lb ++ [(⟨4, [], 0, (L t).length⟩ : Tok)]).map (encL t)) : Nat) = lb.length + 1 := by simp
        have l3 : (List.length ((la ++ lb.map (sh ((L s).length + 1)) ++ [(⟨4, [], 0, (L w).length⟩ : Tok)]).map (encL w)) : Nat) = la.length + lb.length + 1 := by rw [List.length_map, List.length_append, List.length_append, List.length_map]; rfl
        rw [l1, l2, l3]
        have ew : IntKind.wrap .i64 ((IntKind.wrap .i64 (((la.length + 1 : Nat) : Int) + ((lb.length + 1 : Nat) : Int))) - 1) = ((la.length + lb.length + 1 : Nat) : Int) := by
          rw [wrap_id (show -9223372036854775808 ≤ ((la.length + 1 : Nat) : Int) + ((lb.length + 1 : Nat) : Int) by omega) (by omega), wrap_id (by omega) (by omega)]; omega
        rw [ew, bne_self_eq_false]
        simp only [cond_false]
        have hlp := prefix_loop (n := n) (s := s) (t := t) (w := w) (la := la) (lb := lb) (by omega) hw (by intro x hx; have := h3 x hx; omega) (by omega) (by omega) ((L s).length + 1) (⟨4, [], 0, (L s).length⟩ : Tok) n 0 (by omega) (by omega)
        rw [show (((0 : Nat) : Nat) : Int) = 0 from rfl] at hlp
        rw [hlp]
        rfl
end Go.Proofs.YtkolhagejiabhaaDoor.W
