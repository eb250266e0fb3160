/- Chapter 9, plain: which goto or label is wrong first, exactly: the program's, the document's. No conditions. -/
import Derived.Test.YtgpokdaacbjimabJM
namespace Go.Proofs.Ytgpokdaacbjimab.W
open Go Go.Eng
set_option linter.unusedVariables false
set_option linter.unusedSimpArgs false
set_option linter.unusedSectionVars false

/-- Is it such a label as another one? -/
def lbl (x y : Pl) : Bool := (y.th == x.th) && (y.s.kind == 10) && nmEq y x
def tw (X : List Pl) (i : Nat) : Bool := match X[i]? with
  | some x => (x.s.kind == 10) && (X.take i).any (lbl x)
  | none => false
def wrong (X : List Pl) (i : Nat) : Bool := tw X i || (match X[i]? with
  | some x => (x.s.kind == 9) && decide (tgt X i < 0)
  | none => false)
def resX (X : List Pl) : (Nat × Nat) × Int := match findF (wrong X) X.length 0 with
  | some i => (match X[i]? with
    | some x => (x.s.at_, 4)
    | none => ((0, 0), 0))
  | none => ((0, 0), 0)

theorem any_drop_here {α : Type} (p : α → Bool) {l : List α} {j : Nat} (h : j < l.length) : (l.drop j).any p = (p l[j] || (l.drop (j + 1)).any p) := by
  rw [List.drop_eq_getElem_cons h, List.any_cons]
theorem tw_at {X : List Pl} {i : Nat} (h : i < X.length) : tw X i = ((X[i].s.kind == 10) && (X.take i).any (lbl X[i])) := by
  unfold tw
  rw [List.getElem?_eq_getElem h]
theorem wrong_at {X : List Pl} {i : Nat} (h : i < X.length) : wrong X i = (tw X i || ((X[i].s.kind == 9) && decide (tgt X i < 0))) := by
  unfold wrong
  rw [List.getElem?_eq_getElem h]
theorem eqb_nat (a b : Nat) : (((a : Nat) : Int) == ((b : Nat) : Int)) = (a == b) := by
  by_cases h : a = b
  · rw [beq_iff_eq.2 h, beq_iff_eq]; omega
  · rw [beq_eq_false_iff_ne.2 h, beq_eq_false_iff_ne]; omega

section
variable {n : Nat} (hn : 100000 < n) {X : List Pl} (hX : Ord X)
include hn hX

theorem twice_eq {i : Nat} (hi : i < X.length) : m_jumps_twice n (X.map encPl) (i : Int) = some (tw X i) := by
  have hlen := hX.len
  rw [tw_at hi]
  unfold m_jumps_twice
  rw [idx_Pl hi, Option.bind_some]
  obtain ⟨g0, g1, g2, g3⟩ := getPl X[i]
  rw [g0, g1, g2, g3]
  refine must_is ?_ ?_
  · rw [sized_Pl]
    simp only [List.length_map, Bool.and_true, Bool.and_eq_true, decide_eq_true_eq]
    omega
  by_cases h10 : X[i].s.kind = 10
  · rw [show ((X[i].s.kind : Int) == 10) = true from beq_iff_eq.2 h10]
    simp only [cond_true, Bool.true_and]
    have eY : List.drop (Int.toNat 0) (List.take (Int.toNat (i : Int)) (X.map encPl)) = (X.take i).map encPl := by
      rw [Int.toNat_natCast, List.map_take]; rfl
    rw [eY]
    have hY : (X.take i).length ≤ 6000 := by rw [List.length_take]; omega
    generalize X.take i = Y at *
    have hloop : ∀ (m j : Nat), j ≤ Y.length → Y.length - j < m → ∀ k2 k3 k4 k5 k6 k7 k8 k9 k10 k11 k13, ∃ x, l_slices_IndexFunc___jumps_placed_jumps_placed__2 n m (Y.map encPl, ((Y.length : Nat) : Int), (j : Int), k2, X[i].s.name, k3, k4, k5, k6, k7, k8, k9, k10, k11, (X[i].th : Int), k13) = some x ∧ (match x with
        | .inl p => 0 ≤ p.1 ∧ (Y.drop j).any (lbl X[i]) = true
        | .inr _ => (Y.drop j).any (lbl X[i]) = false) := by
      intro m
      induction m with
      | zero => intro j h1 h2; omega
      | succ m ih =>
        intro j h1 h2 k2 k3 k4 k5 k6 k7 k8 k9 k10 k11 k13
        rw [l_slices_IndexFunc___jumps_placed_jumps_placed__2]
        unfold l_slices_IndexFunc___jumps_placed_jumps_placed__2_B
        simp only
        by_cases hlt : j < Y.length
        · rw [decide_eq_true (show (j : Int) < ((Y.length : Nat) : Int) by omega), cond_true, idx_Pl hlt, Option.bind_some]
          unfold m_jumps_twice_1
          obtain ⟨a0, a1, a2, a3⟩ := getPl Y[j]
          rw [a0, a1, a2]
          simp only [Option.bind_some]
          have hl : (bif (bif (((Y[j].th : Nat) : Int) == ((X[i].th : Nat) : Int)) then ((Y[j].s.kind : Int) == 10) else false) then (ByteArray.toList Y[j].s.name == ByteArray.toList X[i].s.name) else false) = lbl X[i] Y[j] := by
            unfold lbl nmEq
            rw [eqb_nat]
            cases (Y[j].th == X[i].th) <;> cases (Y[j].s.kind == 10) <;> rfl
          rw [hl, any_drop_here _ hlt]
          cases hb : lbl X[i] Y[j] with
          | true =>
            rw [cond_true]
            exact ⟨_, rfl, by simp only; omega, by rw [Bool.true_or]⟩
          | false =>
            rw [cond_false, wrap_up (show j ≤ 281474976710656 by omega), Bool.false_or]
            exact ih (j + 1) (by omega) (by omega) _ _ _ _ _ _ _ _ _ _ _
        · rw [decide_eq_false (show ¬ (j : Int) < ((Y.length : Nat) : Int) by omega), cond_false]
          exact ⟨_, rfl, by rw [List.drop_eq_nil_of_le (by omega)]; rfl⟩
    unfold m_slices_ContainsFunc___jumps_placed_jumps_placed_ m_slices_IndexFunc___jumps_placed_jumps_placed_
    rw [List.length_map]
    obtain ⟨x, hx, hx2⟩ := hloop n 0 (by omega) (by omega) X[i].s.kind ((encPl X[i]).cell 2).str ((encPl X[i]).cell 3).int ((encPl X[i]).cell 4).int ((encPl X[i]).cell 5).int ((encPl X[i]).cell 6).str ((encPl X[i]).cell 7).lst ((encPl X[i]).cell 8).lst ((encPl X[i]).cell 9).lst (((encPl X[i]).cell 10).re, ((encPl X[i]).cell 10).im) (X[i].ar.map iN)
    rw [show ((0 : Int)) = ((0 : Nat) : Int) from rfl, hx]
    rw [List.drop_zero] at hx2
    cases x with
    | inl p =>
      obtain ⟨p1, p2⟩ := p
      simp only [Option.bind_some, Sum.elim_inl]
      rw [hx2.2, decide_eq_true (show p1 ≥ ((0 : Nat) : Int) from hx2.1)]
    | inr p =>
      simp only [Option.bind_some, Sum.elim_inr]
      rw [hx2]
      rfl
  · rw [show ((X[i].s.kind : Int) == 10) = false from beq_eq_false_iff_ne.2 h10]
    rfl

theorem check_eq (P : List (List S)) (hP : cntP P ≤ 6000) (hl : P.length ≤ 4) (hXP : (plP P 0 0).1 = X) (d : List T) : m_jumps_Check n d (encP P) = some (resX X) := by
  have hlen := hX.len
  have loop : ∀ (m k : Nat), k ≤ X.length → X.length - k < m → ∀ s4 s5, l_jumps_Check_3 n m (X.map encPl, X.map encPl, ((X.length : Nat) : Int), (k : Int), s4, s5) = some (match findF (wrong X) (X.length - k) k with
      | some i => (match X[i]? with
        | some x => .inl (x.s.at_, 4, s4, s5)
        | none => .inr (s4, s5))
      | none => .inr (s4, s5)) := by
    intro m
    induction m with
    | zero => intro k h1 h2; omega
    | succ m ih =>
      intro k h1 h2 s4 s5
      rw [l_jumps_Check_3]
      unfold l_jumps_Check_3_B
      simp only
      by_cases hlt : k < X.length
      · rw [decide_eq_true (show (k : Int) < ((X.length : Nat) : Int) by omega), cond_true, idx_Pl hlt, Option.bind_some, twice_eq hn hX hlt, Option.bind_some]
        obtain ⟨g0, g1, g2, g3⟩ := getPl X[k]
        rw [g0, atPl]
        obtain ⟨f, hf⟩ : ∃ f, X.length - k = f + 1 := ⟨X.length - k - 1, by omega⟩
        have next := ih (k + 1) (by omega) (by omega) s4 s5
        rw [show X.length - (k + 1) = f by omega] at next
        rw [hf, findF, wrong_at hlt, wrap_up (show k ≤ 281474976710656 by omega), target_eq hn hX hlt]
        cases tw X k with
        | true =>
          simp only [Bool.not_true, Bool.false_and, cond_false, Option.bind_some, cond_true, Bool.true_or, if_true]
          rw [List.getElem?_eq_getElem hlt]
        | false =>
          simp only [Bool.not_false, Bool.true_and, Bool.false_or]
          cases h9 : ((X[k].s.kind : Int) == 9) with
          | false =>
            simp only [cond_false, Option.bind_some, Bool.false_and, Bool.false_eq_true, if_false]
            exact next
          | true =>
            simp only [cond_true, Option.bind_some, Bool.true_and]
            cases hd : decide (tgt X k < 0) with
            | true =>
              simp only [cond_true, cond_false, if_true]
              rw [List.getElem?_eq_getElem hlt]
            | false =>
              simp only [cond_false, Bool.false_eq_true, if_false]
              exact next
      · rw [decide_eq_false (show ¬ (k : Int) < ((X.length : Nat) : Int) by omega), cond_false, show X.length - k = 0 by omega]
        rfl
  unfold m_jumps_Check
  rw [all_eq hn P hP hl d, hXP, Option.bind_some, List.length_map, show ((0 : Int)) = ((0 : Nat) : Int) from rfl, loop n 0 (by omega) (by omega), Option.bind_some, Nat.sub_zero]
  unfold resX
  cases findF (wrong X) X.length 0 with
  | none => rfl
  | some i =>
    simp only
    cases X[i]? with
    | none => rfl
    | some x => rfl

theorem inner8 {i : Nat} (hi : i < X.length) : ∀ (m j : Nat), j ≤ i → i - j < m → ∀ (s3 s4 : List T) (s7 : ByteArray) (s8 s9 s10 : Int) (s11 : ByteArray) (s12 s13 s14 : List T) (s15 : Nat × Nat) (s16 : List T),
    ∃ x, l_sutureref8_Jumps_9 n m (X.map encM8, (i : Int), (j : Int), s3, s4, X[i].s.kind, X[i].s.name, s7, s8, s9, s10, s11, s12, s13, s14, s15, s16, (X[i].th : Int)) = some x ∧ (match x with
      | .inl p => p.1 = s15 ∧ p.2.1 = 4 ∧ p.2.2.1 = s3 ∧ p.2.2.2.1 = s4 ∧ ((X[i].s.kind == 10) && ((X.take i).drop j).any (lbl X[i])) = true
      | .inr p => p.1 = X.map encM8 ∧ p.2.1 = (i : Int) ∧ p.2.2.1 = s3 ∧ p.2.2.2.1 = s4 ∧ ((X[i].s.kind == 10) && ((X.take i).drop j).any (lbl X[i])) = false) := by
  have hlen := hX.len
  have hti : (X.take i).length = i := by rw [List.length_take]; omega
  intro m
  induction m with
  | zero => intro j h1 h2; omega
  | succ m ih =>
    intro j h1 h2 s3 s4 s7 s8 s9 s10 s11 s12 s13 s14 s15 s16
    rw [l_sutureref8_Jumps_9]
    unfold l_sutureref8_Jumps_9_B
    simp only
    cases h10 : ((X[i].s.kind : Int) == 10) with
    | false =>
      have e : (bif (decide ((j : Int) < (i : Int))) then false else false) = false := by cases decide ((j : Int) < (i : Int)) <;> rfl
      rw [e, cond_false]
      exact ⟨_, rfl, rfl, rfl, rfl, rfl, by rw [Bool.false_and]⟩
    | true =>
      by_cases hlt : j < i
      · have hj : j < X.length := by omega
        rw [decide_eq_true (show (j : Int) < (i : Int) by omega)]
        simp only [cond_true, Bool.true_and]
        rw [idx_M8 hj, Option.bind_some]
        obtain ⟨a0, a1, a2, a3⟩ := getM8 X[j]
        rw [a0]
        have hget : (X.take i)[j]'(by rw [hti]; exact hlt) = X[j] := List.getElem_take
        have hany := any_drop_here (lbl X[i]) (l := X.take i) (j := j) (by rw [hti]; exact hlt)
        rw [hget] at hany
        rw [wrap_up (show j ≤ 281474976710656 by omega), hany]
        have next := ih (j + 1) (by omega) (by omega) s3 s4 s7 s8 s9 s10 s11 s12 s13 s14 s15 s16
        rw [h10] at next
        simp only [Bool.true_and] at next
        unfold lbl at *
        cases q1 : ((X[j].s.kind : Int) == 10) with
        | false =>
          simp only [idx_off, Option.bind_some, cond_false, Bool.and_false, Bool.false_and, Bool.false_or]
          exact next
        | true =>
          simp only [cond_true]
          rw [idx_M8 hj]
          simp only [Option.bind_some, a1]
          have hnm : (ByteArray.toList X[j].s.name == ByteArray.toList X[i].s.name) = nmEq X[j] X[i] := rfl
          rw [hnm]
          cases q2 : nmEq X[j] X[i] with
          | false =>
            simp only [idx_off, Option.bind_some, cond_false, Bool.and_false, Bool.false_or]
            exact next
          | true =>
            simp only [cond_true]
            rw [idx_M8 hj]
            simp only [Option.bind_some, a2]
            rw [eqb_nat]
            cases q3 : (X[j].th == X[i].th) with
            | false =>
              simp only [cond_false, Bool.false_and, Bool.false_or]
              exact next
            | true =>
              simp only [cond_true]
              exact ⟨_, rfl, rfl, rfl, rfl, rfl, by simp⟩
      · rw [decide_eq_false (show ¬ (j : Int) < (i : Int) by omega)]
        simp only [cond_false]
        exact ⟨_, rfl, rfl, rfl, rfl, rfl, by rw [List.drop_eq_nil_of_le (by omega)]; simp⟩

theorem jumps8_eq (P : List (List S)) (hP : cntP P ≤ 6000) (hl : P.length ≤ 4) (hXP : (plP P 0 0).1 = X) (d : List T) : m_sutureref8_Jumps n d (encP P) = some (resX X) := by
  have hlen := hX.len
  have loop : ∀ (m k : Nat), k ≤ X.length → X.length - k < m → ∀ s4 s5, l_sutureref8_Jumps_3 n m (X.map encM8, (k : Int), s4, s5) = some (match findF (wrong X) (X.length - k) k with
      | some i => (match X[i]? with
        | some x => .inl (x.s.at_, 4, s4, s5)
        | none => .inr (s4, s5))
      | none => .inr (s4, s5)) := by
    intro m
    induction m with
    | zero => intro k h1 h2; omega
    | succ m ih =>
      intro k h1 h2 s4 s5
      rw [l_sutureref8_Jumps_3]
      unfold l_sutureref8_Jumps_3_B
      simp only [List.length_map]
      by_cases hlt : k < X.length
      · rw [decide_eq_true (show (k : Int) < ((X.length : Nat) : Int) by omega), cond_true, idx_M8 hlt, Option.bind_some]
        obtain ⟨g0, g1, g2, g3⟩ := getM8 X[k]
        rw [g0, g1, g2, g3, atM8]
        obtain ⟨f, hf⟩ : ∃ f, X.length - k = f + 1 := ⟨X.length - k - 1, by omega⟩
        have next := ih (k + 1) (by omega) (by omega) s4 s5
        rw [show X.length - (k + 1) = f by omega] at next
        rw [hf, findF, wrong_at hlt, target8_eq hn hX hlt, tw_at hlt]
        obtain ⟨x, hx, hx2⟩ := inner8 (n := n) hn hX hlt n 0 (by omega) (by omega) s4 s5 ((encM8 X[k]).cell 2).str ((encM8 X[k]).cell 3).int ((encM8 X[k]).cell 4).int ((encM8 X[k]).cell 5).int ((encM8 X[k]).cell 6).str ((encM8 X[k]).cell 7).lst ((encM8 X[k]).cell 8).lst ((encM8 X[k]).cell 9).lst X[k].s.at_ (X[k].ar.map i8)
        rw [List.drop_zero] at hx2
        cases h9 : ((X[k].s.kind : Int) == 9) with
        | true =>
          have hk9 := beq_iff_eq.1 h9
          have h10 : ((X[k].s.kind : Int) == 10) = false := by rw [beq_eq_false_iff_ne]; omega
          simp only [cond_true, Option.bind_some, Bool.true_and]
          rw [h10] at hx2 ⊢
          simp only [Bool.false_and, Bool.false_or]
          cases hd : decide (tgt X k < 0) with
          | true =>
            simp only [cond_true, if_true]
            rw [List.getElem?_eq_getElem hlt]
          | false =>
            simp only [cond_false, Bool.false_eq_true, if_false]
            rw [show ((0 : Int)) = ((0 : Nat) : Int) from rfl, hx]
            cases x with
            | inl p => simp at hx2
            | inr p =>
              obtain ⟨p1, p2, p3, p4, p5⟩ := p
              obtain ⟨e1, e2, e3, e4, _⟩ := hx2
              simp only at e1 e2 e3 e4
              subst e1 e2 e3 e4
              simp only [Option.bind_some, Sum.elim_inr]
              rw [wrap_up (show k ≤ 281474976710656 by omega)]
              exact next
        | false =>
          simp only [cond_false, Option.bind_some, Bool.false_and, Bool.or_false]
          rw [show ((0 : Int)) = ((0 : Nat) : Int) from rfl, hx]
          cases x with
          | inl p =>
            obtain ⟨p1, p2, p3, p4, p5⟩ := p
            obtain ⟨e1, e2, e3, e4, e5⟩ := hx2
            simp only at e1 e2 e3 e4
            subst e1 e2 e3 e4
            rw [e5]
            simp only [Option.bind_some, Sum.elim_inl, if_true]
            rw [List.getElem?_eq_getElem hlt]
          | inr p =>
            obtain ⟨p1, p2, p3, p4, p5⟩ := p
            obtain ⟨e1, e2, e3, e4, e5⟩ := hx2
            simp only at e1 e2 e3 e4
            subst e1 e2 e3 e4
            rw [e5]
            simp only [Option.bind_some, Sum.elim_inr, Bool.false_eq_true, if_false]
            rw [wrap_up (show k ≤ 281474976710656 by omega)]
            exact next
      · rw [decide_eq_false (show ¬ (k : Int) < ((X.length : Nat) : Int) by omega), cond_false, show X.length - k = 0 by omega]
        rfl
  unfold m_sutureref8_Jumps
  rw [all8 hn P hP hl d, hXP, Option.bind_some, show ((0 : Int)) = ((0 : Nat) : Int) from rfl, loop n 0 (by omega) (by omega), Option.bind_some, Nat.sub_zero]
  unfold resX
  cases findF (wrong X) X.length 0 with
  | none => rfl
  | some i =>
    simp only
    cases X[i]? with
    | none => rfl
    | some x => rfl
end
end Go.Proofs.Ytgpokdaacbjimab.W
