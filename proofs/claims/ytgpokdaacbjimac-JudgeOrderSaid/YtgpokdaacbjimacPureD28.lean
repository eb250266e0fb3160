/- Chapter 28, plain, fourth part: the order does not count. No program in sight. -/
import Derived.Test.YtgpokdaacbjimacPureC28
namespace Go.Proofs.Ytgpokdaacbjimac.W
open Go Go.Eng
set_option linter.unusedVariables false
set_option linter.unusedSimpArgs false

theorem str_back (x : ByteArray) : T.sc (.string ((str1 x).cell 0).str) = str1 x := rfl

theorem order10 (n : Nat) (xs : List ByteArray) (hl : xs.length ≤ 3) (a1 a2 a3 : List T) (a4 a5 : Int) (b1 b3 : List T) (b4 b5 : Int) (c1 c3 : List T) (c4 c5 : Int) (d1 d2 d3 : List T) (d4 d5 : Int) : ∀ (j m : Nat) (ac : List ByteArray), j ≤ xs.length → j < m → ac.length + j ≤ 100 →
    ∃ ys : List ByteArray, l_suturelaw28_JudgeOrder_10 n m ((j : Int) - 1, a1, a2, a3, a4, a5, b1, xs.map str1, b3, b4, b5, c1, ac.map str1, c3, c4, c5, d1, d2, d3, d4, d5) = some (a1, a2, a3, a4, a5, b1, xs.map str1, b3, b4, b5, c1, ys.map str1, c3, c4, c5, d1, d2, d3, d4, d5) ∧ (∀ x, x ∈ ys ↔ x ∈ ac ∨ x ∈ xs.take j) ∧ ys.length = ac.length + j
  | 0, m, ac, _, hm, _ => by
    obtain ⟨m, rfl⟩ : ∃ k, m = k + 1 := ⟨m - 1, by omega⟩
    simp only [l_suturelaw28_JudgeOrder_10, l_suturelaw28_JudgeOrder_10_B]
    have : decide (((0 : Nat) : Int) - 1 ≥ 0) = false := by decide
    simp only [this, cond_false]
    exact ⟨ac, rfl, by simp, by simp⟩
  | j + 1, m, ac, hj, hm, hb => by
    obtain ⟨m, rfl⟩ : ∃ k, m = k + 1 := ⟨m - 1, by omega⟩
    have e : ((j + 1 : Nat) : Int) - 1 = (j : Int) := by omega
    simp only [l_suturelaw28_JudgeOrder_10, l_suturelaw28_JudgeOrder_10_B, e, down_int, cond_true, idx_str (show j < xs.length by omega), Option.bind_some, str_back]
    rw [must_ok, wrap_down (by omega)]
    · obtain ⟨ys, h1, h2, h3⟩ := order10 n xs hl a1 a2 a3 a4 a5 b1 b3 b4 b5 c1 c3 c4 c5 d1 d2 d3 d4 d5 j m (ac ++ [xs[j]]) (by omega) (by omega) (by simp; omega)
      refine ⟨ys, by simpa using h1, fun x => ?_, by rw [h3]; simp; omega⟩
      rw [h2, take_mem (show j < xs.length by omega)]
      simp only [List.mem_append, List.mem_cons, List.not_mem_nil, or_false]
      constructor
      · rintro ((h | h) | h)
        · exact .inl h
        · exact .inr (.inr h)
        · exact .inr (.inl h)
      · rintro (h | h | h)
        · exact .inl (.inl h)
        · exact .inr h
        · exact .inl (.inr h)
    · have := sized1 [xs[j]]
      simp only [List.map_cons, List.map_nil] at this
      simp only [List.length_map, this, List.length_cons, List.length_nil, Bool.and_true]
      simp; omega

theorem order14 (n : Nat) (xs : List Oc) (hl : xs.length ≤ 5) (a2 a3 : List T) (a4 a5 : Int) (b1 b2 b3 : List T) (b4 b5 : Int) (c1 c2 c3 : List T) (c4 c5 : Int) (d2 d3 : List T) (d4 d5 : Int) : ∀ (j m : Nat) (ac : List Oc), j ≤ xs.length → j < m → ac.length + j ≤ 100 →
    ∃ ys : List Oc, l_suturelaw28_JudgeOrder_14 n m ((j : Int) - 1, xs.map Oc.enc, a2, a3, a4, a5, b1, b2, b3, b4, b5, c1, c2, c3, c4, c5, ac.map Oc.enc, d2, d3, d4, d5) = some (xs.map Oc.enc, a2, a3, a4, a5, b1, b2, b3, b4, b5, c1, c2, c3, c4, c5, ys.map Oc.enc, d2, d3, d4, d5) ∧ (∀ x, x ∈ ys ↔ x ∈ ac ∨ x ∈ xs.take j) ∧ ys.length = ac.length + j
  | 0, m, ac, _, hm, _ => by
    obtain ⟨m, rfl⟩ : ∃ k, m = k + 1 := ⟨m - 1, by omega⟩
    simp only [l_suturelaw28_JudgeOrder_14, l_suturelaw28_JudgeOrder_14_B]
    have : decide (((0 : Nat) : Int) - 1 ≥ 0) = false := by decide
    simp only [this, cond_false]
    exact ⟨ac, rfl, by simp, by simp⟩
  | j + 1, m, ac, hj, hm, hb => by
    obtain ⟨m, rfl⟩ : ∃ k, m = k + 1 := ⟨m - 1, by omega⟩
    have e : ((j + 1 : Nat) : Int) - 1 = (j : Int) := by omega
    simp only [l_suturelaw28_JudgeOrder_14, l_suturelaw28_JudgeOrder_14_B, e, down_int, cond_true, idx_oc (show j < xs.length by omega), Option.bind_some, oc_back]
    rw [must_ok, wrap_down (by omega)]
    · obtain ⟨ys, h1, h2, h3⟩ := order14 n xs hl a2 a3 a4 a5 b1 b2 b3 b4 b5 c1 c2 c3 c4 c5 d2 d3 d4 d5 j m (ac ++ [xs[j]]) (by omega) (by omega) (by simp; omega)
      refine ⟨ys, by simpa using h1, fun x => ?_, by rw [h3]; simp; omega⟩
      rw [h2, take_mem (show j < xs.length by omega)]
      simp only [List.mem_append, List.mem_cons, List.not_mem_nil, or_false]
      constructor
      · rintro ((h | h) | h)
        · exact .inl h
        · exact .inr (.inr h)
        · exact .inr (.inl h)
      · rintro (h | h | h)
        · exact .inl (.inl h)
        · exact .inr h
        · exact .inl (.inr h)
    · have := sized3 [xs[j]]
      simp only [List.map_cons, List.map_nil] at this
      simp only [List.length_map, this, List.length_cons, List.length_nil, Bool.and_true]
      simp; omega

theorem order18 (n : Nat) (xs : List ByteArray) (hl : xs.length ≤ 3) (a1 a3 : List T) (a4 a5 : Int) (b1 b2 b3 : List T) (b4 b5 : Int) (c1 c2 c3 : List T) (c4 c5 : Int) (d1 d3 : List T) (d4 d5 : Int) : ∀ (j m : Nat) (ac : List ByteArray), j ≤ xs.length → j < m → ac.length + 2 * j ≤ 100 →
    ∃ ys : List ByteArray, l_suturelaw28_JudgeOrder_18 n m ((j : Int) - 1, a1, xs.map str1, a3, a4, a5, b1, b2, b3, b4, b5, c1, c2, c3, c4, c5, d1, ac.map str1, d3, d4, d5) = some (a1, xs.map str1, a3, a4, a5, b1, b2, b3, b4, b5, c1, c2, c3, c4, c5, d1, ys.map str1, d3, d4, d5) ∧ (∀ x, x ∈ ys ↔ x ∈ ac ∨ x ∈ xs.take j) ∧ ys.length = ac.length + 2 * j
  | 0, m, ac, _, hm, _ => by
    obtain ⟨m, rfl⟩ : ∃ k, m = k + 1 := ⟨m - 1, by omega⟩
    simp only [l_suturelaw28_JudgeOrder_18, l_suturelaw28_JudgeOrder_18_B]
    have : decide (((0 : Nat) : Int) - 1 ≥ 0) = false := by decide
    simp only [this, cond_false]
    exact ⟨ac, rfl, by simp, by simp⟩
  | j + 1, m, ac, hj, hm, hb => by
    obtain ⟨m, rfl⟩ : ∃ k, m = k + 1 := ⟨m - 1, by omega⟩
    have e : ((j + 1 : Nat) : Int) - 1 = (j : Int) := by omega
    simp only [l_suturelaw28_JudgeOrder_18, l_suturelaw28_JudgeOrder_18_B, e, down_int, cond_true, idx_str (show j < xs.length by omega), Option.bind_some, str_back]
    rw [must_ok, wrap_down (by omega)]
    · obtain ⟨ys, h1, h2, h3⟩ := order18 n xs hl a1 a3 a4 a5 b1 b2 b3 b4 b5 c1 c2 c3 c4 c5 d1 d3 d4 d5 j m (ac ++ [xs[j], xs[j]]) (by omega) (by omega) (by simp; omega)
      refine ⟨ys, by simpa using h1, fun x => ?_, by rw [h3]; simp; omega⟩
      rw [h2, take_mem (show j < xs.length by omega)]
      simp only [List.mem_append, List.mem_cons, List.not_mem_nil, or_false, or_self]
      constructor
      · rintro ((h | h) | h)
        · exact .inl h
        · exact .inr (.inr h)
        · exact .inr (.inl h)
      · rintro (h | h | h)
        · exact .inl (.inl h)
        · exact .inr h
        · exact .inl (.inr h)
    · have := sized1 [xs[j], xs[j]]
      simp only [List.map_cons, List.map_nil] at this
      simp only [List.length_map, this, List.length_cons, List.length_nil, Bool.and_true]
      simp; omega

theorem judgeOrder (a b c d : List Int) (m n s : Int) (_ : Wf a) (_ : Wf b) (_ : Wf c) (_ : Wf d) (_ : (Lit.int .i64 m).wf = true) (_ : (Lit.int .i64 n).wf = true) (_ : (Lit.int .i64 s).wf = true) :
    ∃ k, m_suturelaw28_JudgeOrder k (ints .i64 a) (ints .i64 b) (ints .i64 c) (ints .i64 d) m n s = some true := by
  refine ⟨1001, ?_⟩
  obtain ⟨p, hp, p1, p2, p3, _⟩ := made 1001 (by omega) a b m
  obtain ⟨q, hq, q1, q2, q3, _⟩ := made 1001 (by omega) c d n
  have pk : p.ok := Res.small p1 p2 p3
  have qk : q.ok := Res.small q1 q2 q3
  obtain ⟨ro, e1, g1, l1⟩ := order6 1001 q.oc q2 (p.oc.map Oc.enc) (p.st.map str1) p.races 0 0 (q.st.map str1) q.races 0 0 [] q.races s m [] [] p.races n 0 q.oc.length 1001 [] (by omega) (by omega) (by simp; omega)
  obtain ⟨rs, e2, g2, l2⟩ := order10 1001 q.st q3 (p.oc.map Oc.enc) (p.st.map str1) p.races 0 0 (q.oc.map Oc.enc) q.races 0 0 (ro.map Oc.enc) q.races s m [] [] p.races n 0 q.st.length 1001 [] (by omega) (by omega) (by simp; omega)
  obtain ⟨so, e3, g3, l3⟩ := order14 1001 p.oc p2 (p.st.map str1) p.races 0 0 (q.oc.map Oc.enc) (q.st.map str1) q.races 0 0 (ro.map Oc.enc) (rs.map str1) q.races s m [] p.races n 0 p.oc.length 1001 [] (by omega) (by omega) (by simp; omega)
  obtain ⟨ss, e4, g4, l4⟩ := order18 1001 p.st p3 (p.oc.map Oc.enc) p.races 0 0 (q.oc.map Oc.enc) (q.st.map str1) q.races 0 0 (ro.map Oc.enc) (rs.map str1) q.races s m (so.map Oc.enc) p.races n 0 p.st.length 1001 [] (by omega) (by omega) (by simp; omega)
  simp only [List.take_length, List.not_mem_nil, false_or, List.length_nil, Nat.zero_add, List.map_nil] at e1 e2 e3 e4 g1 g2 g3 g4 l1 l2 l3 l4
  let r : Res := ⟨ro, rs, q.races⟩
  let t : Res := ⟨so, ss, p.races⟩
  have rk : r.ok := ⟨fun x hx => q1 x ((g1 x).1 hx), by simp [r]; omega, by simp [r]; omega⟩
  have tk : t.ok := ⟨fun x hx => p1 x ((g3 x).1 hx), by simp [t]; omega, by simp [t]; omega⟩
  have A : ∀ (x y : Res), x.ok → y.ok → ∀ s t u v, m_judge_Accepts 1001 (x.oc.map Oc.enc) (x.st.map str1) x.races s t (y.oc.map Oc.enc) (y.st.map str1) y.races u v = some (acc x y) := fun x y hx hy s t u v => accepts 1001 (by omega) x y hx hy s t u v
  have A1 := A p q pk qk 0 0 0 0
  have A2 := A p r pk rk 0 0 s m
  have A3 := A t q tk qk n 0 0 0
  have A4 := A t r tk rk n 0 s m
  have c2 : acc p r = acc p q := acc_congr (fun _ => Iff.rfl) (fun x => g1 x) (fun _ => Iff.rfl) (fun x => g2 x) rfl
  have c3 : acc t q = acc p q := acc_congr (fun x => g3 x) (fun _ => Iff.rfl) (fun x => g4 x) (fun _ => Iff.rfl) rfl
  have c4 : acc t r = acc p q := acc_congr (fun x => g3 x) (fun x => g1 x) (fun x => g4 x) (fun x => g2 x) rfl
  have w1 := within_spec 1001 (by omega) q.oc ro qk.1 (by omega) (by omega)
  have w2 := within_spec 1001 (by omega) ro q.oc rk.1 (by omega) (by omega)
  have i1 : inB q.oc ro = true := inB_iff.2 fun x hx => (g1 x).2 hx
  have i2 : inB ro q.oc = true := inB_iff.2 fun x hx => (g1 x).1 hx
  have wd : ∀ j : Nat, j ≤ 1000 → IntKind.wrap .i64 ((j : Int) - 1) = (j : Int) - 1 := fun j hj => wrap_down (by omega)
  unfold m_suturelaw28_JudgeOrder
  simp only [hp, hq, Option.bind_some, List.length_map, wd _ (show q.oc.length ≤ 1000 by omega), wd _ (show q.st.length ≤ 1000 by omega), wd _ (show p.oc.length ≤ 1000 by omega), wd _ (show p.st.length ≤ 1000 by omega), e1, e2, e3, e4]
  rw [c2] at A2
  rw [c3] at A3
  rw [c4] at A4
  simp only [r, t] at A2 A3 A4
  simp only [A1, A2, A3, A4, Option.bind_some, known_true 1001 (by omega), cond_true, beq_self_eq_true, w1, w2, i1, i2]

end Go.Proofs.Ytgpokdaacbjimac.W
