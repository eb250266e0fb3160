/- Chapter 9, plain: the document's reading of any text comes to a program: threads of statements. -/
import Derived.Test.YtgpokdaacbjimabJD
import Derived.Test.YtgpokdaacbjimabEngWF
namespace Go.Proofs.Ytgpokdaacbjimab.W
open Go Go.Eng
set_option linter.unusedVariables false
set_option linter.unusedSimpArgs false
set_option linter.unusedSectionVars false

def encP (P : List (List S)) : List T := P.map fun l => T.list (encSLJ l)
def gdPr (P : List (List S)) : Prop := ∀ l ∈ P, gdL l
def cntP : List (List S) → Nat
  | [] => 0
  | l :: r => cntL l + cntP r
theorem cntP_append : ∀ (l k : List (List S)), cntP (l ++ k) = cntP l + cntP k
  | [], k => by simp only [cntP, List.nil_append]; omega
  | s :: l, k => by simp only [cntP, List.cons_append, cntP_append l k]; omega

section
variable {A : List T} {N : Int} (hA : Toks A N) {n : Nat} (hn : 6002 < n) {s : ByteArray} (hs0 : (L s).length ≤ 281474976710656) (hsn : (L s).length < n)
include hA hn hs0 hsn

theorem decls_c : ∀ (m : Nat) (i : Int) (f : Bool) (b : Int) (d : List T), 0 ≤ i → i ≤ N → 0 ≤ b → b ≤ N → N - i + (bif f then 0 else 1) < m → d.length ≤ 24 → ∀ s1 s2 s3 s9, Comes (l_sutureref1_Parse_6 n m (s, s1, s2, s3, A, i, f, b, d, s9)) fun r => r.1 = s ∧ r.2.1 = s1 ∧ Stp A N i f (r.2.2.2.2.1, r.2.2.2.2.2.1, r.2.2.2.2.2.2.1, r.2.2.2.2.2.2.2.1) ∧ r.2.2.2.2.2.2.2.2.2 = s9 := by
  have hs := hA.small
  intro m
  induction m with
  | zero => intro i f b d h0 h1 b0 b1 hm; cases f <;> simp only [cond_true, cond_false] at hm <;> omega
  | succ m ih =>
    intro i f b d h0 h1 b0 b1 hm hd s1 s2 s3 s9
    rw [l_sutureref1_Parse_6]
    unfold l_sutureref1_Parse_6_B
    simp only
    refine comes_bind (tok_c hA _ h0 h1) fun y1 hy1 => ?_
    refine comes_bind (tok_c hA _ h0 h1) fun y2 hy2 => ?_
    refine comes_bind (P := fun _ => True) (comes_cond (fun _ => declKind_c n (by omega) _) (fun _ => comes_some trivial)) fun r3 _ => ?_
    refine comes_cond (fun hk => ?_) (fun _ => comes_some ⟨rfl, rfl, Stp.refl h1 b0 b1, rfl⟩)
    cases f with
    | true => simp at hk
    | false =>
      have hy1 := hy1 rfl
      simp only [Bool.not_false, cond_true] at hk
      have hlt : i < N := by
        cases hk1 : (((y1.cell 0).int : Int) == 1) with
        | false => rw [hk1] at hk; simp at hk
        | true => have := beq_iff_eq.1 hk1; exact hy1 (by omega)
      simp only [cond_false] at hm
      refine comes_cond (fun _ => ?_) (fun h24 => ?_)
      · refine comes_bind (fail_c hA false h0 h1 b0 b1) fun r hr => ?_
        obtain ⟨u1, u2, u3, u4⟩ := r
        exact comes_some ⟨rfl, rfl, hr.1, rfl⟩
      · have h24 : d.length < 24 := by
          have : ¬ ((d.length : Nat) : Int) = 24 := by simpa using h24
          omega
        refine comes_bind (tok_c hA _ h0 h1) fun y5 _ => ?_
        refine comes_bind (declKind_c n (by omega) _) fun r6 _ => ?_
        refine comes_bind (tok_c hA _ h0 h1) fun y7 _ => ?_
        refine comes_bind (place_c hs0 hsn _) fun r8 _ => ?_
        rw [wrap_id (show -9223372036854775808 ≤ i + 1 by omega) (by omega)]
        refine comes_bind (name_c hA (by omega) false (by omega) (by omega) b0 b1) fun r hr => ?_
        obtain ⟨u0, u1, u2, u3, u4⟩ := r
        obtain ⟨hr, _⟩ := hr
        obtain ⟨e1, e2, e3, e4, e5, e6⟩ := hr
        simp only at e1 e2 e3 e4 e5 e6 ⊢
        subst e1
        have fin : ∀ (i1 : Int) (f1 : Bool) (b1' : Int) (x : T), i + 1 ≤ i1 → i1 ≤ N → 0 ≤ b1' → b1' ≤ N → Comes (l_sutureref1_Parse_6 n m (s, s1, s2, s3, u1, i1, f1, b1', d ++ [x], s9)) fun r => r.1 = s ∧ r.2.1 = s1 ∧ Stp u1 N i false (r.2.2.2.2.1, r.2.2.2.2.2.1, r.2.2.2.2.2.2.1, r.2.2.2.2.2.2.2.1) ∧ r.2.2.2.2.2.2.2.2.2 = s9 := by
          intro i1 f1 b1' x j0 j1 j2 j3
          refine comes_mono (ih i1 f1 b1' (d ++ [x]) (by omega) j1 j2 j3 (by cases f1 <;> simp only [cond_true, cond_false] <;> omega) (by simp; omega) s1 s2 s3 s9) fun a ha => ?_
          obtain ⟨h1, h2, h3, h4⟩ := ha
          exact ⟨h1, h2, ⟨h3.same, by have := h3.le; omega, h3.top, h3.bad0, h3.bad1, fun h => by cases h⟩, h4⟩
        refine comes_cond (fun _ => ?_) (fun _ => ?_)
        · refine comes_bind (number_c hA (by omega) 3 u3 (by omega) e3 e4 e5) fun r hr => ?_
          obtain ⟨v0, v1, v2, v3, v4⟩ := r
          obtain ⟨hr, _⟩ := hr
          obtain ⟨g1, g2, g3, g4, g5, g6⟩ := hr
          simp only at g1 g2 g3 g4 g5 g6 ⊢
          subst g1
          refine comes_must ?_ ?_
          · simp only [List.length_cons, List.length_nil, Bool.and_eq_true, decide_eq_true_eq]
            exact ⟨rfl, by omega, rfl⟩
          exact fin _ _ _ _ (by omega) g3 g4 g5
        · refine comes_must ?_ ?_
          · simp only [List.length_cons, List.length_nil, Bool.and_eq_true, decide_eq_true_eq]
            exact ⟨rfl, by omega, rfl⟩
          exact fin _ _ _ _ (by omega) e3 e4 e5

theorem threads_c : ∀ (m : Nat) (i : Int) (f : Bool) (b : Int) (P : List (List S)), 0 ≤ i → i ≤ N → 0 ≤ b → b ≤ N → N - i + (bif f then 0 else 1) < m → P.length ≤ 4 → ((cntP P : Nat) : Int) ≤ i → gdPr P → ∀ s1 s2 s3 s8, Comes (l_sutureref1_Parse_15 n m (s, s1, s2, s3, A, i, f, b, s8, encP P)) fun r => r.1 = s1 ∧ Stp A N i f (r.2.2.2.1, r.2.2.2.2.1, r.2.2.2.2.2.1, r.2.2.2.2.2.2.1) ∧
    ∃ Q : List (List S), r.2.2.2.2.2.2.2.2 = encP Q ∧ Q.length ≤ 4 ∧ ((cntP Q : Nat) : Int) ≤ r.2.2.2.2.1 ∧ gdPr Q := by
  have hs := hA.small
  intro m
  induction m with
  | zero => intro i f b P h0 h1 b0 b1 hm; cases f <;> simp only [cond_true, cond_false] at hm <;> omega
  | succ m ih =>
    intro i f b P h0 h1 b0 b1 hm hP hc hg s1 s2 s3 s8
    rw [l_sutureref1_Parse_15]
    unfold l_sutureref1_Parse_15_B
    simp only
    have hlP : (encP P).length = P.length := by simp [encP]
    refine comes_bind (tok_c hA _ h0 h1) fun y1 hy1 => ?_
    refine comes_cond (fun hk => ?_) (fun _ => comes_some ⟨rfl, Stp.refl h1 b0 b1, P, rfl, hP, hc, hg⟩)
    cases f with
    | true => simp at hk
    | false =>
      simp only [cond_false] at hm
      refine comes_bind (word_c hA (b := b) _ false h0 h1) fun r hr => ?_
      obtain ⟨q1, w5⟩ := r
      obtain ⟨rfl, hq1⟩ := hr
      simp only at hq1 ⊢
      refine comes_cond (fun _ => ?_) (fun hk2 => ?_)
      · refine comes_bind (fail_c hA false h0 h1 b0 b1) fun r hr => ?_
        obtain ⟨u1, u2, u3, u4⟩ := r
        exact comes_some ⟨rfl, hr.1, P, rfl, hP, by have := hr.1.le; simp only at this ⊢; omega, hg⟩
      · cases q1 with
        | false => simp at hk2
        | true =>
          obtain ⟨_, hlt⟩ := hq1 rfl
          have h4 : P.length < 4 := by
            rw [hlP] at hk2
            have : ¬ ((P.length : Nat) : Int) = 4 := by simpa using hk2
            omega
          rw [wrap_id (show -9223372036854775808 ≤ i + 1 by omega) (by omega)]
          refine comes_bind ((blocks_c hA hn hs0 hsn n 1 (by omega) (by omega)).1 (by omega) (i + 1) false b (by omega) (by omega) b0 b1) fun r hr => ?_
          obtain ⟨w0, w1, w2, w3, w4⟩ := r
          obtain ⟨⟨l, hl, hlc, hlg⟩, g1, g2, g3, g4, g5, g6⟩ := hr
          simp only at hl hlc g1 g2 g3 g4 g5 g6 ⊢
          subst g1
          subst hl
          refine comes_must ?_ ?_
          · rw [hlP]
            simp only [List.length_cons, List.length_nil, Bool.and_eq_true, decide_eq_true_eq]
            exact ⟨rfl, by omega, rfl⟩
          have e : encP P ++ [T.list (encSLJ l)] = encP (P ++ [l]) := by simp [encP]
          rw [e]
          have ec : cntP (P ++ [l]) = cntP P + cntL l := by rw [cntP_append]; simp only [cntP]; omega
          refine comes_mono (ih w2 w3 w4 (P ++ [l]) (by omega) g3 g4 g5 (by cases w3 <;> simp only [cond_true, cond_false] <;> omega) (by simp; omega) (by rw [ec]; omega) (by intro x hx; simp only [List.mem_append, List.mem_singleton] at hx; rcases hx with hx | rfl; exact hg x hx; exact hlg) s1 s2 s3 s8) fun a ha => ?_
          obtain ⟨k1, k2, k3⟩ := ha
          exact ⟨k1, ⟨k2.same, by have := k2.le; omega, k2.top, k2.bad0, k2.bad1, fun h => by cases h⟩, k3⟩
end

/-- Any text is read, if not as a program, then as none. -/
theorem parse_c {n : Nat} {s : ByteArray} (hs0 : (L s).length ≤ 281474976710656) (hsn : (L s).length + 6100 < n) : Comes (m_sutureref1_Parse n s) fun r => ∃ P : List (List S), r.2.1 = encP P ∧ P.length ≤ 4 ∧ cntP P ≤ 6000 ∧ gdPr P := by
  have none_ : ∀ (a b : Int) (d : List T), Comes (some (d, ([] : List T), a, b)) fun r => ∃ P : List (List S), r.2.1 = encP P ∧ P.length ≤ 4 ∧ cntP P ≤ 6000 ∧ gdPr P := fun a b d => comes_some ⟨[], rfl, by simp, by simp [cntP], fun l hl => by simp at hl⟩
  unfold m_sutureref1_Parse
  rw [tokensR_eq (by omega)]
  simp only [Option.bind_some]
  unfold toksR
  by_cases h6 : 6000 < (L s).length
  · rw [if_pos h6]
    exact none_ _ _ _
  · rw [if_neg h6]
    cases hr2 : lexR (L s) 0 [] with
    | bad q => exact none_ _ _ _
    | ok l =>
      have h1 := lexR_len _ (L s) 0 [] l (Nat.le_refl _) hr2
      simp only [List.length_nil] at h1
      have e0 : ((0 : Int) != 0) = false := rfl
      simp only [e0, cond_false]
      generalize hA : (l ++ [(⟨4, [], 0, (L s).length⟩ : Tok)]).map encR = A
      have hT : Toks A (l.length : Int) := by
        subst hA
        refine ⟨by simp, by omega, by omega, fun i hi => ?_⟩
        simp only [List.length_map, List.length_append, List.length_cons, List.length_nil] at hi
        by_cases hil : i < l.length
        · refine ⟨l[i], ?_, fun _ => by omega⟩
          rw [List.getElem?_map, List.getElem?_append_left hil, List.getElem?_eq_getElem hil]; rfl
        · refine ⟨⟨4, [], 0, (L s).length⟩, ?_, fun h => absurd rfl h⟩
          have : i = l.length := by omega
          subst this
          rw [List.getElem?_map, List.getElem?_append_right (Nat.le_refl _)]; simp
      refine comes_bind (decls_c hT (by omega) hs0 (by omega) n 0 false 0 [] (by omega) hT.pos (by omega) hT.pos (by simp only [cond_false]; omega) (by simp) A [] [] []) fun p hp => ?_
      obtain ⟨p1, p2, p3, p4, p5, p6, p7, p8, p9, p10⟩ := p
      obtain ⟨q1, q2, ⟨g1, g2, g3, g4, g5, g6⟩, q4⟩ := hp
      simp only at q1 q2 q4 g1 g2 g3 g4 g5 g6 ⊢
      subst q1 q2 g1 q4
      have e1 : ([] : List T) = encP [] := rfl
      rw [e1]
      refine comes_bind (threads_c hT (by omega) hs0 (by omega) n p6 p7 p8 [] (by omega) g3 g4 g5 (by cases p7 <;> simp only [cond_true, cond_false] <;> omega) (by simp) (by simp only [cntP]; omega) (fun l hl => by simp at hl) p5 p3 p4 p9) fun p hp => ?_
      obtain ⟨u1, u2, u3, u4, u5, u6, u7, u8, u9⟩ := p
      obtain ⟨q1, ⟨g1, g2, g3, g4, g5, g6⟩, Q, hQ1, hQ2, hQ3, hQ4⟩ := hp
      simp only at q1 hQ1 hQ3 g1 g2 g3 g4 g5 g6 ⊢
      subst q1
      refine comes_cond (fun _ => ?_) (fun _ => ?_)
      · refine comes_bind (tok_c hT true g4 g5) fun y _ => none_ _ _ _
      · exact comes_some ⟨Q, hQ1, hQ2, by omega, hQ4⟩
end Go.Proofs.Ytgpokdaacbjimab.W
