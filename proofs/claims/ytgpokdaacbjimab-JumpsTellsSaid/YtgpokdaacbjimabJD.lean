/- Chapter 9, plain: the document's reading comes to a tree of statements, whatever the text. -/
import Derived.Test.YtgpokdaacbjimabJC
namespace Go.Proofs.Ytgpokdaacbjimab.W
open Go Go.Eng
set_option linter.unusedVariables false
set_option linter.unusedSimpArgs false
set_option linter.unusedSectionVars false

/-- A statement. -/
inductive S where
  | mk (kind : Int) (name other : ByteArray) (num ek en : Int) (es : ByteArray) (eof : List T) (body els : List S) (re im : Nat)

mutual
def S.enc : S → T
  | .mk kind name other num ek en es eof body els re im => T.agg [(T.sc (.int .i64 kind)), (T.sc (.string name)), (T.sc (.string other)), (T.sc (.int .i64 num)), (T.sc (.int .i64 ek)), (T.sc (.int .i64 en)), (T.sc (.string es)), (T.list eof), (T.list (encSLJ body)), (T.list (encSLJ els)), (T.sc (.complex .f64 re im))]
def encSLJ : List S → List T
  | [] => []
  | s :: r => s.enc :: encSLJ r
end
mutual
def S.cnt : S → Nat
  | .mk _ _ _ _ _ _ _ _ body els _ _ => 1 + cntL body + cntL els
def cntL : List S → Nat
  | [] => 0
  | s :: r => s.cnt + cntL r
end

theorem encSL_appendJ : ∀ (l k : List S), encSLJ (l ++ k) = encSLJ l ++ encSLJ k
  | [], k => by simp only [encSLJ, List.nil_append]
  | s :: l, k => by simp only [encSLJ, List.cons_append, encSL_appendJ l k]
theorem cntL_append : ∀ (l k : List S), cntL (l ++ k) = cntL l + cntL k
  | [], k => by simp only [cntL, List.nil_append]; omega
  | s :: l, k => by simp only [cntL, List.cons_append, cntL_append l k]; omega
theorem cnt_pos : ∀ (s : S), 1 ≤ s.cnt
  | .mk _ _ _ _ _ _ _ _ body els _ _ => by simp only [S.cnt]; omega
theorem len_cnt : ∀ (l : List S), (encSLJ l).length ≤ cntL l
  | [] => by simp [encSLJ, cntL]
  | s :: l => by
    have := len_cnt l
    have := cnt_pos s
    simp only [encSLJ, cntL, List.length_cons]; omega
theorem encSL_oneJ (s : S) : encSLJ [s] = [s.enc] := by simp only [encSLJ]
theorem sized_SJ : ∀ (l : List S), sized 11 (encSLJ l) = true
  | [] => by simp [encSLJ, sized]
  | .mk _ _ _ _ _ _ _ _ _ _ _ _ :: l => by
    have := sized_SJ l
    simp only [sized, encSLJ, List.all_cons, Bool.and_eq_true] at *
    exact ⟨rfl, this⟩

mutual
/-- Each statement's place is equal to itself. -/
def gdS : S → Prop
  | .mk _ _ _ _ _ _ _ _ body els re im => gdP (re, im) ∧ gdL body ∧ gdL els
def gdL : List S → Prop
  | [] => True
  | s :: r => gdS s ∧ gdL r
end
theorem gdL_append : ∀ (l k : List S), gdL l → gdL k → gdL (l ++ k)
  | [], k, _, h => by simpa using h
  | s :: l, k, h, g => by simp only [gdL] at h; simp only [List.cons_append, gdL]; exact ⟨h.1, gdL_append l k h.2 g⟩
theorem gdL_nil : gdL [] := by simp only [gdL]
/-- What a statement's reading comes to. -/
def StQ (A : List T) (N i : Int) (r : Int × ByteArray × ByteArray × Int × Int × Int × ByteArray × (List T) × (List T) × (List T) × (Nat × Nat) × (List T) × Int × Bool × Int) : Prop :=
  (∃ bl el : List S, r.2.2.2.2.2.2.2.2.1 = encSLJ bl ∧ r.2.2.2.2.2.2.2.2.2.1 = encSLJ el ∧ ((cntL bl + cntL el : Nat) : Int) ≤ r.2.2.2.2.2.2.2.2.2.2.2.2.1 - i ∧
    (r.2.2.2.2.2.2.2.2.2.2.2.2.2.1 = false → ((cntL bl + cntL el : Nat) : Int) + 1 ≤ r.2.2.2.2.2.2.2.2.2.2.2.2.1 - i) ∧ gdP r.2.2.2.2.2.2.2.2.2.2.1 ∧ gdL bl ∧ gdL el) ∧ Stp A N i false r.2.2.2.2.2.2.2.2.2.2.2
/-- What a block's reading comes to. -/
def BlQ (A : List T) (N i : Int) (f : Bool) (r : (List T) × (List T) × Int × Bool × Int) : Prop :=
  (∃ l : List S, r.1 = encSLJ l ∧ ((cntL l : Nat) : Int) ≤ r.2.2.1 - i ∧ gdL l) ∧ Stp A N i f r.2

section
variable {A : List T} {N : Int} (hA : Toks A N) {n : Nat} (hn : 6002 < n) {s : ByteArray} (hs0 : (L s).length ≤ 281474976710656) (hsn : (L s).length < n)
include hA hn hs0 hsn

theorem stmt_c {c : B___sutureref1_Reader__block} {deep : Int} (d0 : 0 ≤ deep) (d1 : deep ≤ 8)
    (hb : ∀ (i : Int) (f : Bool) (b : Int), 0 ≤ i → i ≤ N → 0 ≤ b → b ≤ N → Comes (c.__sutureref1_Reader__block s (deep + 1) A i f b) (BlQ A N i f)) :
    ∀ (i b : Int), 0 ≤ i → i ≤ N → 0 ≤ b → b ≤ N → Comes (f___sutureref1_Reader__stmt c n s deep A i false b) (StQ A N i) := by
  intro i b h0 h1 b0 b1
  have hs := hA.small
  -- no blocks
  have fin : ∀ (k num ek en : Int) (nm ot es : ByteArray) (eof : List T) (at_ : Nat × Nat) (q : List T × Int × Bool × Int), gdP at_ → Stp A N (i + 1) false q → StQ A N i (k, nm, ot, num, ek, en, es, eof, [], [], at_, q) := by
    intro k num ek en nm ot es eof at_ q hat hq
    have := hq.le
    refine ⟨⟨[], [], by simp only [encSLJ], by simp only [encSLJ], ?_, fun _ => ?_, hat, gdL_nil, gdL_nil⟩, ⟨hq.same, by simp only; omega, hq.top, hq.bad0, hq.bad1, fun h => by cases h⟩⟩
    · simp only [cntL]; omega
    · simp only [cntL]; omega
  unfold f___sutureref1_Reader__stmt
  refine comes_bind (tok_c hA _ h0 h1) fun y hy => ?_
  have hy := hy rfl
  refine comes_bind (place_c hs0 hsn _) fun r1 hat => ?_
  refine comes_cond (fun _ => ?_) (fun hk => ?_)
  · refine comes_bind (fail_c hA false h0 h1 b0 b1) fun r hr => ?_
    obtain ⟨u1, u2, u3, u4⟩ := r
    obtain ⟨hr1, hr2, hr3⟩ := hr
    simp only at hr1 hr2 hr3 ⊢
    subst hr3
    refine comes_some ⟨⟨[], [], by simp only [encSLJ], by simp only [encSLJ], ?_, fun h => ?_, hat, gdL_nil, gdL_nil⟩, hr1⟩
    · simp only [cntL]; omega
    · simp only at h; rw [hr2] at h; cases h
  · have hk : (y.cell 0).int = 1 := by simpa using hk
    have hlt := hy (by omega)
    rw [wrap_id (show -9223372036854775808 ≤ i + 1 by omega) (by omega), wrap_id (show -9223372036854775808 ≤ i + 1 - 1 by omega) (by omega), wrap_id (show -9223372036854775808 ≤ deep + 1 by omega) (by omega)]
    have hi1 : 0 ≤ i + 1 := by omega
    have hi2 : i + 1 ≤ N := by omega
    have la : ∀ k : Int, Comes (Option.bind (m___sutureref1_Reader__name n A (i + 1) false b) fun r => some (k, r.1, (⟨#[]⟩ : ByteArray), (0 : Int), (0 : Int), (0 : Int), (⟨#[]⟩ : ByteArray), ([] : List T), ([] : List T), ([] : List T), r1, r.2.1, r.2.2.1, r.2.2.2.1, r.2.2.2.2)) (StQ A N i) := by
      intro k
      refine comes_bind (name_c hA (by omega) false hi1 hi2 b0 b1) fun r hr => ?_
      obtain ⟨u0, u1, u2, u3, u4⟩ := r
      exact comes_some (fin _ _ _ _ _ _ _ _ _ _ hat hr.1)
    have lb : Comes (Option.bind (m___sutureref1_Reader__name n A (i + 1) false b) fun r7 => Option.bind (m___sutureref1_Reader__whole n s r7.2.1 r7.2.2.1 r7.2.2.2.1 r7.2.2.2.2) fun r8 => some ((4 : Int), r7.1, (⟨#[]⟩ : ByteArray), (0 : Int), r8.1, r8.2.1, r8.2.2.1, r8.2.2.2.1, ([] : List T), ([] : List T), r1, r8.2.2.2.2.1, r8.2.2.2.2.2.1, r8.2.2.2.2.2.2.1, r8.2.2.2.2.2.2.2)) (StQ A N i) := by
      refine comes_bind (name_c hA (by omega) false hi1 hi2 b0 b1) fun r hr => ?_
      obtain ⟨u0, u1, u2, u3, u4⟩ := r
      obtain ⟨hr, hr2⟩ := hr
      obtain ⟨e1, e2, e3, e4, e5, e6⟩ := hr
      simp only at e1 e2 e3 e4 e5 e6 ⊢
      subst e1
      refine comes_bind (whole_c hA hn s u3 (by omega) e3 e4 e5) fun r hr3 => ?_
      obtain ⟨v0, v1, v2, v3, v4⟩ := r
      exact comes_some (fin _ _ _ _ _ _ _ _ _ _ hat (Stp.trans (q := (u1, u2, u3, u4)) ⟨rfl, e2, e3, e4, e5, e6⟩ hr3))
    have lc : Comes (Option.bind (m___sutureref1_Reader__name n A (i + 1) false b) fun r9 => Option.bind (m___sutureref1_Reader__name n r9.2.1 r9.2.2.1 r9.2.2.2.1 r9.2.2.2.2) fun r10 => some ((5 : Int), r9.1, r10.1, (0 : Int), (0 : Int), (0 : Int), (⟨#[]⟩ : ByteArray), ([] : List T), ([] : List T), ([] : List T), r1, r10.2.1, r10.2.2.1, r10.2.2.2.1, r10.2.2.2.2)) (StQ A N i) := by
      refine comes_bind (name_c hA (by omega) false hi1 hi2 b0 b1) fun r hr => ?_
      obtain ⟨u0, u1, u2, u3, u4⟩ := r
      obtain ⟨hr, hr2⟩ := hr
      obtain ⟨e1, e2, e3, e4, e5, e6⟩ := hr
      simp only at e1 e2 e3 e4 e5 e6 ⊢
      subst e1
      refine comes_bind (name_c hA (by omega) u3 (by omega) e3 e4 e5) fun r hr3 => ?_
      obtain ⟨v0, v1, v2, v3, v4⟩ := r
      exact comes_some (fin _ _ _ _ _ _ _ _ _ _ hat (Stp.trans (q := (u1, u2, u3, u4)) ⟨rfl, e2, e3, e4, e5, e6⟩ hr3.1))
    have ld : Comes (Option.bind (m___sutureref1_Reader__whole n s A (i + 1) false b) fun r11 => some ((6 : Int), (⟨#[]⟩ : ByteArray), (⟨#[]⟩ : ByteArray), (0 : Int), r11.1, r11.2.1, r11.2.2.1, r11.2.2.2.1, ([] : List T), ([] : List T), r1, r11.2.2.2.2.1, r11.2.2.2.2.2.1, r11.2.2.2.2.2.2.1, r11.2.2.2.2.2.2.2)) (StQ A N i) := by
      refine comes_bind (whole_c hA hn s false hi1 hi2 b0 b1) fun r hr => ?_
      obtain ⟨v0, v1, v2, v3, v4⟩ := r
      exact comes_some (fin _ _ _ _ _ _ _ _ _ _ hat hr)
    have le : Comes (Option.bind (m___sutureref1_Reader__whole n s A (i + 1) false b) fun r12 => Option.bind (c.__sutureref1_Reader__block s (deep + 1) r12.2.2.2.2.1 r12.2.2.2.2.2.1 r12.2.2.2.2.2.2.1 r12.2.2.2.2.2.2.2) fun r13 => Option.bind (m___sutureref1_Reader__word n (⟨#[101, 108, 115, 101]⟩ : ByteArray) r13.2.1 r13.2.2.1 r13.2.2.2.1 r13.2.2.2.2) fun r14 => bif r14.1 then (Option.bind (c.__sutureref1_Reader__block s (deep + 1) r14.2.1 (IntKind.wrap .i64 (r14.2.2.1 + 1)) r14.2.2.2.1 r14.2.2.2.2) fun r15 => some ((7 : Int), (⟨#[]⟩ : ByteArray), (⟨#[]⟩ : ByteArray), (0 : Int), r12.1, r12.2.1, r12.2.2.1, r12.2.2.2.1, r13.1, r15.1, r1, r15.2.1, r15.2.2.1, r15.2.2.2.1, r15.2.2.2.2)) else (some ((7 : Int), (⟨#[]⟩ : ByteArray), (⟨#[]⟩ : ByteArray), (0 : Int), r12.1, r12.2.1, r12.2.2.1, r12.2.2.2.1, r13.1, ([] : List T), r1, r14.2.1, r14.2.2.1, r14.2.2.2.1, r14.2.2.2.2))) (StQ A N i) := by
      refine comes_bind (whole_c hA hn s false hi1 hi2 b0 b1) fun r hr => ?_
      obtain ⟨v0, v1, v2, v3, u1, u2, u3, u4⟩ := r
      obtain ⟨e1, e2, e3, e4, e5, e6⟩ := hr
      simp only at e1 e2 e3 e4 e5 e6 ⊢
      subst e1
      refine comes_bind (hb u2 u3 u4 (by omega) e3 e4 e5) fun r hr => ?_
      obtain ⟨w0, w1, w2, w3, w4⟩ := r
      obtain ⟨⟨bl, hbl, hbc, hbg⟩, g1, g2, g3, g4, g5, g6⟩ := hr
      simp only at hbl hbc g1 g2 g3 g4 g5 g6 ⊢
      subst g1
      subst hbl
      refine comes_bind (word_c hA (b := w4) _ w3 (by omega) g3) fun r hr => ?_
      obtain ⟨q1, w5⟩ := r
      obtain ⟨rfl, hq1⟩ := hr
      simp only at hq1 ⊢
      refine comes_cond (fun hk => ?_) (fun _ => ?_)
      · obtain ⟨rfl, hlt2⟩ := hq1 hk
        rw [wrap_id (show -9223372036854775808 ≤ w2 + 1 by omega) (by omega)]
        refine comes_bind (hb (w2 + 1) false w4 (by omega) (by omega) g4 g5) fun r hr => ?_
        obtain ⟨x0, x1, x2, x3, x4⟩ := r
        obtain ⟨⟨el, hel, hec, heg⟩, k1, k2, k3, k4, k5, k6⟩ := hr
        simp only at hel hec k1 k2 k3 k4 k5 k6 ⊢
        subst k1
        subst hel
        refine comes_some ⟨⟨bl, el, rfl, rfl, ?_, fun _ => ?_, hat, hbg, heg⟩, ⟨rfl, ?_, k3, k4, k5, fun h => by cases h⟩⟩ <;> simp only <;> omega
      · refine comes_some ⟨⟨bl, [], rfl, by simp only [encSLJ], ?_, fun _ => ?_, hat, hbg, gdL_nil⟩, ⟨rfl, ?_, g3, g4, g5, fun h => by cases h⟩⟩ <;> simp only [cntL] <;> omega
    have lf : Comes (Option.bind (m___sutureref1_Reader__number n 9 A (i + 1) false b) fun r16 => Option.bind (c.__sutureref1_Reader__block s (deep + 1) r16.2.1 r16.2.2.1 r16.2.2.2.1 r16.2.2.2.2) fun r17 => some ((8 : Int), (⟨#[]⟩ : ByteArray), (⟨#[]⟩ : ByteArray), r16.1, (0 : Int), (0 : Int), (⟨#[]⟩ : ByteArray), ([] : List T), r17.1, ([] : List T), r1, r17.2.1, r17.2.2.1, r17.2.2.2.1, r17.2.2.2.2)) (StQ A N i) := by
      refine comes_bind (number_c hA (by omega) 9 false hi1 hi2 b0 b1) fun r hr => ?_
      obtain ⟨u0, u1, u2, u3, u4⟩ := r
      obtain ⟨hr, hr2⟩ := hr
      obtain ⟨e1, e2, e3, e4, e5, e6⟩ := hr
      simp only at e1 e2 e3 e4 e5 e6 ⊢
      subst e1
      refine comes_bind (hb u2 u3 u4 (by omega) e3 e4 e5) fun r hr => ?_
      obtain ⟨w0, w1, w2, w3, w4⟩ := r
      obtain ⟨⟨bl, hbl, hbc, hbg⟩, g1, g2, g3, g4, g5, g6⟩ := hr
      simp only at hbl hbc g1 g2 g3 g4 g5 g6 ⊢
      subst g1
      subst hbl
      refine comes_some ⟨⟨bl, [], rfl, by simp only [encSLJ], ?_, fun _ => ?_, hat, hbg, gdL_nil⟩, ⟨rfl, ?_, g3, g4, g5, fun h => by cases h⟩⟩ <;> simp only [cntL] <;> omega
    have lg : Comes (Option.bind (m_sutureref1_Keyword n (y.cell 1).str) fun r18 => bif r18 then (Option.bind (m___sutureref1_Reader__failAt n (i + 1 - 1) A (i + 1) false b) fun r19 => some ((0 : Int), (⟨#[]⟩ : ByteArray), (⟨#[]⟩ : ByteArray), (0 : Int), (0 : Int), (0 : Int), (⟨#[]⟩ : ByteArray), ([] : List T), ([] : List T), ([] : List T), r1, r19.1, r19.2.1, r19.2.2.1, r19.2.2.2)) else (Option.bind (m___sutureref1_Reader__must n (⟨#[61]⟩ : ByteArray) A (i + 1) false b) fun r20 => Option.bind (m___sutureref1_Reader__whole n s r20.1 r20.2.1 r20.2.2.1 r20.2.2.2) fun r21 => some ((1 : Int), (y.cell 1).str, (⟨#[]⟩ : ByteArray), (0 : Int), r21.1, r21.2.1, r21.2.2.1, r21.2.2.2.1, ([] : List T), ([] : List T), r1, r21.2.2.2.2.1, r21.2.2.2.2.2.1, r21.2.2.2.2.2.2.1, r21.2.2.2.2.2.2.2))) (StQ A N i) := by
      refine comes_bind (keyword_c n (by omega) _) fun r18 _ => ?_
      refine comes_cond (fun _ => ?_) (fun _ => ?_)
      · refine comes_bind (failAt_c hA false hi1 hi2 b0 b1 (by omega) (by omega)) fun r hr => ?_
        obtain ⟨u1, u2, u3, u4⟩ := r
        exact comes_some (fin _ _ _ _ _ _ _ _ _ _ hat hr.1)
      · refine comes_bind (must_c hA _ false hi1 hi2 b0 b1) fun r hr => ?_
        obtain ⟨u1, u2, u3, u4⟩ := r
        obtain ⟨hr, hr2⟩ := hr
        obtain ⟨e1, e2, e3, e4, e5, e6⟩ := hr
        simp only at e1 e2 e3 e4 e5 e6 ⊢
        subst e1
        refine comes_bind (whole_c hA hn s u3 (by omega) e3 e4 e5) fun r hr3 => ?_
        obtain ⟨v0, v1, v2, v3, v4⟩ := r
        exact comes_some (fin _ _ _ _ _ _ _ _ _ _ hat (Stp.trans (q := (u1, u2, u3, u4)) ⟨rfl, e2, e3, e4, e5, e6⟩ hr3))
    repeat' first
      | exact la _
      | exact lb
      | exact lc
      | exact ld
      | exact le
      | exact lf
      | exact lg
      | refine comes_cond (fun _ => ?_) (fun _ => ?_)

theorem block_c {c : B___sutureref1_Reader__block} {deep : Int} (d0 : 0 ≤ deep)
    (hb : deep ≤ 8 → ∀ (i b : Int), 0 ≤ i → i ≤ N → 0 ≤ b → b ≤ N → Comes (c.__sutureref1_Reader__stmt s deep A i false b) (StQ A N i)) :
    ∀ (i : Int) (f : Bool) (b : Int), 0 ≤ i → i ≤ N → 0 ≤ b → b ≤ N → Comes (f___sutureref1_Reader__block c n s deep A i f b) (BlQ A N i f) := by
  have hs := hA.small
  have loop : ∀ (m : Nat) (i : Int) (f : Bool) (b : Int) (l : List S), 0 ≤ i → i ≤ N → 0 ≤ b → b ≤ N → (deep ≤ 8 ∨ f = true) → N - i + (bif f then 0 else 1) < m → ((cntL l : Nat) : Int) ≤ i → Comes (l___sutureref1_Reader__block_5 c n m (s, deep, encSLJ l, A, i, f, b)) fun r => (∃ k : List S, r.1 = encSLJ (l ++ k) ∧ ((cntL k : Nat) : Int) ≤ r.2.2.1 - i ∧ gdL k) ∧ Stp A N i f r.2 := by
    intro m
    induction m with
    | zero => intro i f b l h0 h1 b0 b1 hd hm; cases f <;> simp only [cond_true, cond_false] at hm <;> omega
    | succ m ih =>
      intro i f b l h0 h1 b0 b1 hd hm hl
      rw [l___sutureref1_Reader__block_5]
      unfold l___sutureref1_Reader__block_5_B
      simp only
      have stop : ∀ (q : List T × Int × Bool × Int), q = (A, i, f, b) → Comes (some (encSLJ l, q.1, q.2.1, q.2.2.1, q.2.2.2)) fun r => (∃ k : List S, r.1 = encSLJ (l ++ k) ∧ ((cntL k : Nat) : Int) ≤ r.2.2.1 - i ∧ gdL k) ∧ Stp A N i f r.2 := by
        rintro q rfl
        exact comes_some ⟨⟨[], by rw [List.append_nil], by simp only [cntL]; omega, gdL_nil⟩, Stp.refl h1 b0 b1⟩
      cases f with
      | true =>
        simp only [Bool.not_true, cond_false, Option.bind_some]
        exact stop (A, i, true, b) rfl
      | false =>
        have hd : deep ≤ 8 := by
          rcases hd with h | h
          · exact h
          · cases h
        simp only [Bool.not_false, cond_true]
        refine comes_bind (sign_c hA (b := b) _ false h0 h1) fun r hr => ?_
        obtain ⟨q1, w5⟩ := r
        obtain ⟨rfl, hq1⟩ := hr
        simp only at hq1 ⊢
        refine comes_cond (fun _ => ?_) (fun _ => stop (A, i, false, b) rfl)
        refine comes_bind (hb hd i b h0 h1 b0 b1) fun r hr => ?_
        obtain ⟨k, nm, ot, num, ek, en, es, eof, bo, els, ⟨re, im⟩, u1, u2, u3, u4⟩ := r
        obtain ⟨⟨bl, el, rfl, rfl, c1, c2, c3, c4, c5⟩, g1, g2, g3, g4, g5, g6⟩ := hr
        simp only at c1 c2 c3 g1 g2 g3 g4 g5 g6 ⊢
        subst g1
        cases u3 with
        | true =>
          simp only [Bool.not_true, cond_false]
          refine comes_mono (ih u2 true u4 l (by omega) g3 g4 g5 (.inr rfl) ?_ (by omega)) fun a ha => ?_
          · simp only [cond_true, cond_false] at hm ⊢; omega
          obtain ⟨⟨k, hk1, hk2, hk3⟩, ha⟩ := ha
          refine ⟨⟨k, hk1, by omega, hk3⟩, ⟨ha.same, by have := ha.le; omega, ha.top, ha.bad0, ha.bad1, fun h => by cases h⟩⟩
        | false =>
          simp only [Bool.not_false, cond_true]
          have c2 := c2 rfl
          have hlen := len_cnt l
          refine comes_must ?_ ?_
          · simp only [List.length_cons, List.length_nil, Bool.and_eq_true, decide_eq_true_eq]
            exact ⟨rfl, by omega, rfl⟩
          have e : encSLJ l ++ [T.agg [(T.sc (.int .i64 k)), (T.sc (.string nm)), (T.sc (.string ot)), (T.sc (.int .i64 num)), (T.sc (.int .i64 ek)), (T.sc (.int .i64 en)), (T.sc (.string es)), (T.list eof), (T.list (encSLJ bl)), (T.list (encSLJ el)), (T.sc (.complex .f64 re im))]] = encSLJ (l ++ [S.mk k nm ot num ek en es eof bl el re im]) := by
            rw [encSL_appendJ, encSL_oneJ]; simp only [S.enc]
          rw [e]
          have ec : cntL [S.mk k nm ot num ek en es eof bl el re im] = 1 + cntL bl + cntL el := by simp only [cntL, S.cnt]; omega
          refine comes_mono (ih u2 false u4 (l ++ [S.mk k nm ot num ek en es eof bl el re im]) (by omega) g3 g4 g5 (.inl hd) ?_ ?_) fun a ha => ?_
          · simp only [cond_true, cond_false] at hm ⊢; omega
          · rw [cntL_append, ec]; omega
          obtain ⟨⟨k2, hk1, hk2, hk3⟩, ha⟩ := ha
          refine ⟨⟨[S.mk k nm ot num ek en es eof bl el re im] ++ k2, by rw [hk1, List.append_assoc], ?_, gdL_append _ _ (by simp only [gdL, gdS]; exact ⟨⟨c3, c4, c5⟩, trivial⟩) hk3⟩, ⟨ha.same, by have := ha.le; omega, ha.top, ha.bad0, ha.bad1, fun h => by cases h⟩⟩
          rw [cntL_append, ec]; omega
  intro i f b h0 h1 b0 b1
  have rest : ∀ (i1 : Int) (f1 : Bool) (b1' : Int), i ≤ i1 → i1 ≤ N → 0 ≤ b1' → b1' ≤ N → (deep ≤ 8 ∨ f1 = true) → (f = true → f1 = true) → Comes (Option.bind (m___sutureref1_Reader__must n (⟨#[123]⟩ : ByteArray) A i1 f1 b1') fun r7 => Option.bind (l___sutureref1_Reader__block_5 c n n (s, deep, ([] : List T), r7.1, r7.2.1, r7.2.2.1, r7.2.2.2)) fun p9 => Option.bind (m___sutureref1_Reader__must n (⟨#[125]⟩ : ByteArray) p9.2.1 p9.2.2.1 p9.2.2.2.1 p9.2.2.2.2) fun r10 => some (p9.1, r10.1, r10.2.1, r10.2.2.1, r10.2.2.2)) (BlQ A N i f) := by
    intro i1 f1 b1' j0 j1 j2 j3 hd hf
    refine comes_bind (must_c hA _ f1 (by omega) j1 j2 j3) fun r hr => ?_
    obtain ⟨u1, u2, u3, u4⟩ := r
    obtain ⟨⟨e1, e2, e3, e4, e5, e6⟩, _⟩ := hr
    simp only at e1 e2 e3 e4 e5 e6 ⊢
    subst e1
    have e0 : ([] : List T) = encSLJ [] := by simp only [encSLJ]
    rw [e0]
    refine comes_bind (loop n u2 u3 u4 [] (by omega) e3 e4 e5 (hd.imp id e6) (by cases u3 <;> simp only [cond_true, cond_false] <;> omega) (by simp only [cntL]; omega)) fun r hr => ?_
    obtain ⟨w0, w1, w2, w3, w4⟩ := r
    obtain ⟨⟨k, hk, hkc, hkg⟩, g1, g2, g3, g4, g5, g6⟩ := hr
    simp only [List.nil_append] at hk hkc g1 g2 g3 g4 g5 g6 ⊢
    subst g1
    subst hk
    refine comes_bind (must_c hA _ w3 (by omega) g3 g4 g5) fun r hr => ?_
    obtain ⟨x1, x2, x3, x4⟩ := r
    obtain ⟨⟨k1, k2, k3, k4, k5, k6⟩, _⟩ := hr
    simp only at k1 k2 k3 k4 k5 k6 ⊢
    refine comes_some ⟨⟨k, rfl, by simp only; omega, hkg⟩, ⟨k1, by simp only; omega, k3, k4, k5, fun h => k6 (g6 (e6 (hf h)))⟩⟩
  unfold f___sutureref1_Reader__block
  refine comes_cond (fun hc => ?_) (fun hc => ?_)
  · refine comes_bind (fail_c hA f h0 h1 b0 b1) fun r hr => ?_
    obtain ⟨u1, u2, u3, u4⟩ := r
    obtain ⟨⟨e1, e2, e3, e4, e5, e6⟩, e7, _⟩ := hr
    simp only at e1 e2 e3 e4 e5 e6 e7 ⊢
    subst e1
    exact rest u2 u3 u4 e2 e3 e4 e5 (.inr e7) e6
  · have hd := of_decide_eq_false hc
    exact rest i f b (Int.le_refl _) h1 b0 b1 (.inl (by omega)) id

theorem blocks_c : ∀ (m : Nat) (deep : Int), 0 ≤ deep → deep ≤ 9 →
    (2 * (9 - deep) + 1 ≤ m → ∀ (i : Int) (f : Bool) (b : Int), 0 ≤ i → i ≤ N → 0 ≤ b → b ≤ N → Comes ((unB___sutureref1_Reader__block n m).__sutureref1_Reader__block s deep A i f b) (BlQ A N i f)) ∧
    (deep ≤ 8 → 2 * (9 - deep) ≤ m → ∀ (i b : Int), 0 ≤ i → i ≤ N → 0 ≤ b → b ≤ N → Comes ((unB___sutureref1_Reader__block n m).__sutureref1_Reader__stmt s deep A i false b) (StQ A N i)) := by
  intro m
  induction m with
  | zero => intro deep d0 d1; exact ⟨fun h => by omega, fun h h2 => by omega⟩
  | succ m ih =>
    intro deep d0 d1
    refine ⟨fun h => ?_, fun hd h => ?_⟩
    · exact block_c hA hn hs0 hsn d0 (fun hd => (ih deep d0 d1).2 hd (by omega))
    · exact stmt_c hA hn hs0 hsn d0 hd ((ih (deep + 1) (by omega) (by omega)).1 (by omega))
end
end Go.Proofs.Ytgpokdaacbjimab.W
