/- Chapter 28, plain, second part: texts; the judgement; the results that the laws make. No program in sight. -/
import Derived.Test.YtgpokdaacbjimacPureA28
namespace Go.Proofs.Ytgpokdaacbjimac.W
open Go Go.Eng
set_option linter.unusedVariables false
set_option linter.unusedSimpArgs false

abbrev same (s t : ByteArray) : Bool := decide (s.toList = t.toList)
theorem same_beq (s t : ByteArray) : (s.toList == t.toList) = same s t := by
  by_cases h : s.toList = t.toList <;> simp [same, h]

theorem sindex_loop (n : Nat) (xs : List ByteArray) (s : ByteArray) (hl : xs.length ≤ 1000) : ∀ (d j m : Nat), d = xs.length - j → d < m →
    (∃ k : Nat, (xs.drop j).any (fun x => same s x) = true ∧ l_slices_Index___string_string__2 n m (xs.map str1, s, (xs.length : Int), (j : Int)) = some (.inl (k : Int))) ∨
    ((xs.drop j).any (fun x => same s x) = false ∧ l_slices_Index___string_string__2 n m (xs.map str1, s, (xs.length : Int), (j : Int)) = some (.inr ()))
  | d, j, 0, _, h => by omega
  | d, j, m + 1, hd, hm => by
    simp only [l_slices_Index___string_string__2, l_slices_Index___string_string__2_B]
    by_cases hlt : j < xs.length
    · have h1 : decide ((j : Int) < (xs.length : Int)) = true := by simpa using hlt
      have c0 : ((str1 xs[j]).cell 0).str = xs[j] := rfl
      simp only [h1, cond_true, idx_str hlt, Option.bind_some, c0, any_drop hlt, same_beq]
      cases hx : same s xs[j] with
      | true => exact .inl ⟨j, by simp, by simp⟩
      | false =>
        simp only [cond_false, Bool.false_or, wrap_nat (show j ≤ 100000 by omega)]
        exact sindex_loop n xs s hl (d - 1) (j + 1) m (by omega) (by omega)
    · have h1 : decide ((j : Int) < (xs.length : Int)) = false := by simpa using hlt
      exact .inr ⟨any_drop_end (by omega), by simp only [h1, cond_false]⟩

theorem scontains (n : Nat) (hn : 1001 ≤ n) (xs : List ByteArray) (s : ByteArray) (hl : xs.length ≤ 1000) : m_slices_Contains___string_string_ n (xs.map str1) s = some (xs.any fun x => same s x) := by
  unfold m_slices_Contains___string_string_ m_slices_Index___string_string_
  simp only [List.length_map]
  rcases sindex_loop n xs s hl xs.length 0 n (by omega) (by omega) with ⟨k, h1, h2⟩ | ⟨h1, h2⟩
  · have h2 : l_slices_Index___string_string__2 n n (xs.map str1, s, (xs.length : Int), 0) = _ := h2
    rw [List.drop_zero] at h1
    have hk : (0 : Int) ≤ (k : Int) := by omega
    rw [h2, h1]; simp [hk]
  · have h2 : l_slices_Index___string_string__2 n n (xs.map str1, s, (xs.length : Int), 0) = _ := h2
    rw [List.drop_zero] at h1
    rw [h2, h1]; simp

theorem sfunc_loop (n : Nat) (hn : 1001 ≤ n) (xs ys : List ByteArray) (u w : List T) (a b : Int) (hl : xs.length ≤ 1000) (hly : ys.length ≤ 1000) : ∀ (d j m : Nat), d = xs.length - j → d < m →
    (∃ k : Nat, (xs.drop j).any (fun x => !(ys.any fun y => same x y)) = true ∧ l_slices_IndexFunc___string_string__2 n m (xs.map str1, (xs.length : Int), (j : Int), u, ys.map str1, w, a, b) = some (.inl ((k : Int), u, ys.map str1, w, a, b))) ∨
    ((xs.drop j).any (fun x => !(ys.any fun y => same x y)) = false ∧ l_slices_IndexFunc___string_string__2 n m (xs.map str1, (xs.length : Int), (j : Int), u, ys.map str1, w, a, b) = some (.inr (u, ys.map str1, w, a, b)))
  | d, j, 0, _, h => by omega
  | d, j, m + 1, hd, hm => by
    simp only [l_slices_IndexFunc___string_string__2, l_slices_IndexFunc___string_string__2_B]
    by_cases hlt : j < xs.length
    · have h1 : decide ((j : Int) < (xs.length : Int)) = true := by simpa using hlt
      have c0 : ((str1 xs[j]).cell 0).str = xs[j] := rfl
      simp only [h1, cond_true, idx_str hlt, Option.bind_some, c0, any_drop hlt, m_judge_Accepts_1, scontains n hn ys xs[j] hly]
      cases hq : (ys.any fun y => same xs[j] y) with
      | false => exact .inl ⟨j, by simp, by simp⟩
      | true =>
        simp only [Bool.not_true, cond_false, Bool.false_or, wrap_nat (show j ≤ 100000 by omega)]
        exact sfunc_loop n hn xs ys u w a b hl hly (d - 1) (j + 1) m (by omega) (by omega)
    · have h1 : decide ((j : Int) < (xs.length : Int)) = false := by simpa using hlt
      exact .inr ⟨any_drop_end (by omega), by simp only [h1, cond_false]⟩

def inS (xs ys : List ByteArray) : Bool := xs.all fun x => ys.any fun y => same x y

theorem sfunc (n : Nat) (hn : 1001 ≤ n) (xs ys : List ByteArray) (u w : List T) (a b : Int) (hl : xs.length ≤ 1000) (hly : ys.length ≤ 1000) :
    m_slices_ContainsFunc___string_string_ n (xs.map str1) u (ys.map str1) w a b = some (!inS xs ys, u, ys.map str1, w, a, b) := by
  have e : inS xs ys = !(xs.any (fun x => !(ys.any fun y => same x y))) := by
    unfold inS; rw [List.all_eq_not_any_not]
  unfold m_slices_ContainsFunc___string_string_ m_slices_IndexFunc___string_string_
  simp only [List.length_map]
  rcases sfunc_loop n hn xs ys u w a b hl hly xs.length 0 n (by omega) (by omega) with ⟨k, h1, h2⟩ | ⟨h1, h2⟩
  · have h2 : l_slices_IndexFunc___string_string__2 n n (xs.map str1, (xs.length : Int), 0, u, ys.map str1, w, a, b) = _ := h2
    rw [List.drop_zero] at h1
    have hk : (0 : Int) ≤ (k : Int) := by omega
    rw [h2, e, h1]; simp [hk]
  · have h2 : l_slices_IndexFunc___string_string__2 n n (xs.map str1, (xs.length : Int), 0, u, ys.map str1, w, a, b) = _ := h2
    rw [List.drop_zero] at h1
    rw [h2, e, h1]; simp

/-! the document's answer -/

theorem rhas_loop (n : Nat) (xs : List ByteArray) (s : ByteArray) (hl : xs.length ≤ 1000) : ∀ (d j m : Nat), d = xs.length - j → d < m →
    l_sutureref22_hasName_2 n m (xs.map str1, s, (j : Int)) = some (if (xs.drop j).any (fun x => same s x) then .inl true else .inr ())
  | d, j, 0, _, h => by omega
  | d, j, m + 1, hd, hm => by
    simp only [l_sutureref22_hasName_2, l_sutureref22_hasName_2_B, List.length_map]
    by_cases hlt : j < xs.length
    · have h1 : decide ((j : Int) < (xs.length : Int)) = true := by simpa using hlt
      have c0 : ((str1 xs[j]).cell 0).str = xs[j] := rfl
      simp only [h1, cond_true, idx_str hlt, Option.bind_some, c0, any_drop hlt, same_beq]
      have hs : same xs[j] s = same s xs[j] := decide_eq_decide.2 eq_comm
      rw [hs]
      cases hx : same s xs[j] with
      | true => simp
      | false =>
        simp only [cond_false, Bool.false_or, wrap_nat (show j ≤ 100000 by omega)]
        exact rhas_loop n xs s hl (d - 1) (j + 1) m (by omega) (by omega)
    · have h1 : decide ((j : Int) < (xs.length : Int)) = false := by simpa using hlt
      simp only [h1, cond_false, any_drop_end (show xs.length ≤ j by omega), Bool.false_eq_true, if_false]

theorem rhas (n : Nat) (hn : 1001 ≤ n) (xs : List ByteArray) (s : ByteArray) (hl : xs.length ≤ 1000) : m_sutureref22_hasName n (xs.map str1) s = some (xs.any fun x => same s x) := by
  unfold m_sutureref22_hasName
  have := rhas_loop n xs s hl xs.length 0 n (by omega) (by omega)
  have this : l_sutureref22_hasName_2 n n (xs.map str1, s, 0) = _ := this
  rw [this, List.drop_zero]
  cases (xs.any fun x => same s x) <;> simp

theorem rstuck_loop (n : Nat) (hn : 1001 ≤ n) (xs ys : List ByteArray) (hl : xs.length ≤ 1000) (hly : ys.length ≤ 1000) : ∀ (d j m : Nat), d = xs.length - j → d < m →
    l_sutureref22_stuckWithin_2 n m (xs.map str1, ys.map str1, (j : Int)) = some (if (xs.drop j).any (fun x => !(ys.any fun y => same x y)) then .inl false else .inr ())
  | d, j, 0, _, h => by omega
  | d, j, m + 1, hd, hm => by
    simp only [l_sutureref22_stuckWithin_2, l_sutureref22_stuckWithin_2_B, List.length_map]
    by_cases hlt : j < xs.length
    · have h1 : decide ((j : Int) < (xs.length : Int)) = true := by simpa using hlt
      have c0 : ((str1 xs[j]).cell 0).str = xs[j] := rfl
      simp only [h1, cond_true, idx_str hlt, Option.bind_some, c0, any_drop hlt, rhas n hn ys _ hly]
      cases hq : (ys.any fun y => same xs[j] y) with
      | false => simp
      | true =>
        simp only [Bool.not_true, cond_false, Bool.false_or, wrap_nat (show j ≤ 100000 by omega)]
        exact rstuck_loop n hn xs ys hl hly (d - 1) (j + 1) m (by omega) (by omega)
    · have h1 : decide ((j : Int) < (xs.length : Int)) = false := by simpa using hlt
      simp only [h1, cond_false, any_drop_end (show xs.length ≤ j by omega), Bool.false_eq_true, if_false]

theorem rstuck (n : Nat) (hn : 1001 ≤ n) (xs ys : List ByteArray) (hl : xs.length ≤ 1000) (hly : ys.length ≤ 1000) : m_sutureref22_stuckWithin n (xs.map str1) (ys.map str1) = some (inS xs ys) := by
  have e : inS xs ys = !(xs.any (fun x => !(ys.any fun y => same x y))) := by
    unfold inS; rw [List.all_eq_not_any_not]
  unfold m_sutureref22_stuckWithin
  have := rstuck_loop n hn xs ys hl hly xs.length 0 n (by omega) (by omega)
  have this : l_sutureref22_stuckWithin_2 n n (xs.map str1, ys.map str1, 0) = _ := this
  rw [this, List.drop_zero, e]
  cases (xs.any (fun x => !(ys.any fun y => same x y))) <;> simp

theorem rin6_loop (n : Nat) (hn : 1001 ≤ n) (xs ys : List Oc) (i : Nat) (hi : i < xs.length) (hx : ∀ x ∈ xs, x.ok) (hly : ys.length ≤ 1000) : ∀ (d j m : Nat) (q : Bool), d = ys.length - j → d < m →
    l_sutureref22_Within_6 n m (xs.map Oc.enc, ys.map Oc.enc, (i : Int), q, (j : Int)) = some (xs.map Oc.enc, ys.map Oc.enc, (i : Int), q || (ys.drop j).any (fun y => decide (xs[i] = y)))
  | d, j, 0, q, _, h => by omega
  | d, j, m + 1, q, hd, hm => by
    simp only [l_sutureref22_Within_6, l_sutureref22_Within_6_B, List.length_map]
    by_cases hlt : j < ys.length
    · have h1 : decide ((j : Int) < (ys.length : Int)) = true := by simpa using hlt
      simp only [h1, cond_true, any_drop hlt]
      cases q with
      | true =>
        have e : ∀ es k sh, idx false sh es k = some default := fun es k sh => rfl
        simp only [Bool.not_true, e, Option.bind_some, cond_false, cond_true, wrap_nat (show j ≤ 100000 by omega), Bool.true_or]
        have := rin6_loop n hn xs ys i hi hx hly (d - 1) (j + 1) m true (by omega) (by omega)
        simpa using this
      | false =>
        have c0 : (xs[i].enc.cell 0).lst = ints .i64 xs[i].v := rfl
        have c1 : (xs[i].enc.cell 1).lst = ints .i64 xs[i].o := rfl
        have c2 : (xs[i].enc.cell 2).bool = xs[i].f := rfl
        have d0 : (ys[j].enc.cell 0).lst = ints .i64 ys[j].v := rfl
        have d1 : (ys[j].enc.cell 1).lst = ints .i64 ys[j].o := rfl
        have d2 : (ys[j].enc.cell 2).bool = ys[j].f := rfl
        simp only [Bool.not_false, idx_oc hi, idx_oc hlt, Option.bind_some, cond_true, cond_false, c0, c1, c2, d0, d1, d2, refSame n xs[i] ys[j] (hx _ (List.getElem_mem hi)) hn, wrap_nat (show j ≤ 100000 by omega), Bool.false_or]
        exact rin6_loop n hn xs ys i hi hx hly (d - 1) (j + 1) m _ (by omega) (by omega)
    · have h1 : decide ((j : Int) < (ys.length : Int)) = false := by simpa using hlt
      simp only [h1, cond_false, any_drop_end (show ys.length ≤ j by omega), Bool.or_false]

theorem rin_loop (n : Nat) (hn : 1001 ≤ n) (xs ys : List Oc) (hx : ∀ x ∈ xs, x.ok) (hl : xs.length ≤ 1000) (hly : ys.length ≤ 1000) : ∀ (d j m : Nat), d = xs.length - j → d < m →
    l_sutureref22_Within_2 n m (xs.map Oc.enc, ys.map Oc.enc, (j : Int)) = some (if (xs.drop j).any (fun x => !(ys.any fun y => decide (x = y))) then .inl false else .inr ())
  | d, j, 0, _, h => by omega
  | d, j, m + 1, hd, hm => by
    simp only [l_sutureref22_Within_2, l_sutureref22_Within_2_B, List.length_map]
    by_cases hlt : j < xs.length
    · have h1 : decide ((j : Int) < (xs.length : Int)) = true := by simpa using hlt
      have := rin6_loop n hn xs ys j hlt hx hly ys.length 0 n false (by omega) (by omega)
      have this : l_sutureref22_Within_6 n n (xs.map Oc.enc, ys.map Oc.enc, (j : Int), false, 0) = _ := this
      simp only [h1, cond_true, this, Option.bind_some, any_drop hlt, List.drop_zero, Bool.false_or]
      cases hq : (ys.any fun y => decide (xs[j] = y)) with
      | false => simp
      | true =>
        simp only [Bool.not_true, cond_false, Bool.false_or, wrap_nat (show j ≤ 100000 by omega)]
        exact rin_loop n hn xs ys hx hl hly (d - 1) (j + 1) m (by omega) (by omega)
    · have h1 : decide ((j : Int) < (xs.length : Int)) = false := by simpa using hlt
      simp only [h1, cond_false, any_drop_end (show xs.length ≤ j by omega), Bool.false_eq_true, if_false]

theorem rin (n : Nat) (hn : 1001 ≤ n) (xs ys : List Oc) (hx : ∀ x ∈ xs, x.ok) (hl : xs.length ≤ 1000) (hly : ys.length ≤ 1000) : m_sutureref22_Within n (xs.map Oc.enc) (ys.map Oc.enc) = some (inB xs ys) := by
  have e : inB xs ys = !(xs.any (fun x => !(ys.any fun y => decide (x = y)))) := by
    unfold inB; rw [List.all_eq_not_any_not]
  unfold m_sutureref22_Within
  have := rin_loop n hn xs ys hx hl hly xs.length 0 n (by omega) (by omega)
  have this : l_sutureref22_Within_2 n n (xs.map Oc.enc, ys.map Oc.enc, 0) = _ := this
  rw [this, List.drop_zero, e]
  cases (xs.any (fun x => !(ys.any fun y => decide (x = y)))) <;> simp

/-! the judgement -/

structure Res where
  oc : List Oc
  st : List ByteArray
  races : List T

def Res.ok (r : Res) : Prop := (∀ x ∈ r.oc, x.ok) ∧ r.oc.length ≤ 1000 ∧ r.st.length ≤ 1000

def acc (p q : Res) : Bool := q.races.isEmpty && inB q.oc p.oc && (!q.oc.isEmpty || p.oc.isEmpty) && inS q.st p.st

theorem accepts (n : Nat) (hn : 1001 ≤ n) (p q : Res) (hp : p.ok) (hq : q.ok) (a b c d : Int) : m_judge_Accepts n (p.oc.map Oc.enc) (p.st.map str1) p.races a b (q.oc.map Oc.enc) (q.st.map str1) q.races c d = some (acc p q) := by
  obtain ⟨p1, p2, p3⟩ := p
  obtain ⟨q1, q2, q3⟩ := q
  unfold m_judge_Accepts acc
  simp only at hp hq ⊢
  have hw := within_spec n hn q1 p1 hq.1 hq.2.1 hp.2.1
  have hs := sfunc n hn q2 p2 (p1.map Oc.enc) p3 a b hq.2.2 hp.2.2
  simp only [hs, Option.bind_some, hw, List.length_map]
  cases q3 with
  | cons x r => 
    have : (((((x :: r).length : Nat) : Int) : Int) == 0) = false := by simp; omega
    simp only [this, cond_false, Option.bind_some, List.isEmpty_cons, Bool.false_and]
  | nil =>
    cases q1 <;> cases p1 <;> simp [Bool.cond_eq_ite] <;> (try cases inB _ _ <;> simp) <;> omega

theorem rAccepts (n : Nat) (hn : 1001 ≤ n) (p q : Res) (hp : p.ok) (hq : q.ok) (a b c d : Int) : m_sutureref22_Accepts n (p.oc.map Oc.enc) (p.st.map str1) p.races a b (q.oc.map Oc.enc) (q.st.map str1) q.races c d = some (acc p q) := by
  obtain ⟨p1, p2, p3⟩ := p
  obtain ⟨q1, q2, q3⟩ := q
  unfold m_sutureref22_Accepts acc
  simp only at hp hq ⊢
  have hw := rin n hn q1 p1 hq.1 hq.2.1 hp.2.1
  have hs := rstuck n hn q2 p2 hq.2.2 hp.2.2
  simp only [hs, Option.bind_some, hw, List.length_map]
  cases q3 with
  | cons x r =>
    have : (((((x :: r).length : Nat) : Int) : Int) == 0) = false := by simp; omega
    simp only [this, cond_false, Option.bind_some, List.isEmpty_cons, Bool.false_and]
  | nil =>
    have pos : ∀ k : Nat, ¬ ((k : Int) + 1 = 0) := fun k => by omega
    cases q1 <;> cases p1 <;> simp [Bool.cond_eq_ite, pos] <;> (try cases inB _ _ <;> simp) <;> omega

end Go.Proofs.Ytgpokdaacbjimac.W
