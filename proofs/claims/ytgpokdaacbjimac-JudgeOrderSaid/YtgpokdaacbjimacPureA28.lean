/- Chapter 28, plain: what the printed models of judge and of the document's answer come to. No program in sight. -/
import Derived.Test.YtgpokdaacbjimacW28
import Derived.Test.YtgpokdaacbjimacEngWF
import Derived.IntWalk
namespace Go.Proofs.Ytgpokdaacbjimac.W
open Go Go.Eng
set_option linter.unusedVariables false
set_option linter.unusedSimpArgs false

theorem wrap_nat {j : Nat} (h : j ≤ 100000) : IntKind.wrap .i64 ((j : Int) + 1) = ((j + 1 : Nat) : Int) := by
  rw [IntKind.wrap_i64]; omega
theorem wrap_down {j : Nat} (h : j ≤ 100000) : IntKind.wrap .i64 ((j : Int) - 1) = (j : Int) - 1 := by
  rw [IntKind.wrap_i64]; omega

theorem idx_map {α : Type} (e : α → T) {sh : List CK} (hf : ∀ x, fits sh (e x) = true) {xs : List α} {i : Nat} (h : i < xs.length) : idx true sh (xs.map e) (i : Int) = some (e xs[i]) := by
  have h0 : decide ((0 : Int) ≤ (i : Int)) = true := by simp
  simp only [idx, cond_true, h0, Int.toNat_natCast, List.getElem?_map, List.getElem?_eq_getElem h, Option.map_some, hf]

def int1 (x : Int) : T := .sc (.int .i64 x)
theorem ints_map (v : List Int) : ints .i64 v = v.map int1 := rfl
theorem ints_len (v : List Int) : (ints .i64 v).length = v.length := by simp [ints]
theorem idx_ints {v : List Int} {i : Nat} (h : i < v.length) : idx true [.int .i64] (ints .i64 v) (i : Int) = some (int1 v[i]) := idx_map int1 (fun x => rfl) h

structure Oc where
  v : List Int
  o : List Int
  f : Bool
  deriving DecidableEq

def Oc.enc (x : Oc) : T := .agg [.list (ints .i64 x.v), .list (ints .i64 x.o), .sc (.bool x.f)]
def str1 (s : ByteArray) : T := .sc (.string s)
theorem idx_oc {v : List Oc} {i : Nat} (h : i < v.length) : idx true [.list, .list, .bool] (v.map Oc.enc) (i : Int) = some v[i].enc := idx_map Oc.enc (fun x => rfl) h
theorem idx_str {v : List ByteArray} {i : Nat} (h : i < v.length) : idx true [.str] (v.map str1) (i : Int) = some (str1 v[i]) := idx_map str1 (fun x => rfl) h

/-! numbers -/

theorem cmp_int (n : Nat) (a b : Int) : m_cmp_Compare_int_ n a b = some (if a < b then -1 else if a > b then 1 else 0) := by
  simp only [m_cmp_Compare_int_, m_cmp_isNaN_int_, Option.bind_some, bne_self_eq_false, cond_false, Bool.cond_eq_ite, decide_eq_true_eq, Bool.false_eq_true, if_false]
  by_cases h1 : a < b
  · simp [h1]
  · by_cases h2 : a > b <;> simp [h1, h2]

theorem take_succ_eq {a b : List Int} {j : Nat} (ha : j < a.length) (hb : j < b.length) (h : a.take j = b.take j) (hx : a[j] = b[j]) : a.take (j + 1) = b.take (j + 1) := by
  rw [List.take_add_one, List.take_add_one, h, List.getElem?_eq_getElem ha, List.getElem?_eq_getElem hb, hx]

theorem compare_loop (n : Nat) (a b : List Int) (hb : a.length ≤ 1000) : ∀ (d j m : Nat), d = a.length - j → j ≤ a.length → j ≤ b.length → a.take j = b.take j → d < m →
    (∃ c, l_slices_Compare___int_int__2 n m (ints .i64 a, ints .i64 b, ints .i64 a, (a.length : Int), (j : Int)) = some (.inl c) ∧ c ≠ 0 ∧ a ≠ b) ∨
    (l_slices_Compare___int_int__2 n m (ints .i64 a, ints .i64 b, ints .i64 a, (a.length : Int), (j : Int)) = some (.inr (ints .i64 a, ints .i64 b)) ∧ a.length ≤ b.length ∧ a = b.take a.length)
  | d, j, 0, _, _, _, _, h => by omega
  | d, j, m + 1, hd, hj, hjb, ht, hm => by
    simp only [l_slices_Compare___int_int__2, l_slices_Compare___int_int__2_B]
    by_cases hlt : j < a.length
    · have h1 : decide ((j : Int) < (a.length : Int)) = true := by simpa using hlt
      simp only [h1, cond_true, idx_ints hlt, Option.bind_some, ints_len]
      by_cases hge : b.length ≤ j
      · have h2 : decide ((j : Int) ≥ (b.length : Int)) = true := by simpa using hge
        simp only [h2, cond_true]
        refine .inl ⟨1, rfl, by decide, fun hab => ?_⟩
        subst hab; omega
      · have h2 : decide ((j : Int) ≥ (b.length : Int)) = false := by simpa using hge
        have hjb' : j < b.length := by omega
        simp only [h2, cond_false, idx_ints hjb', Option.bind_some]
        have hc : ∀ x : Int, ((int1 x).cell 0).int = x := fun x => rfl
        simp only [hc, cmp_int, Option.bind_some]
        by_cases hx : a[j] = b[j]
        · simp only [hx, Int.lt_irrefl, if_false, gt_iff_lt, bne_self_eq_false, cond_false, wrap_nat (show j ≤ 100000 by omega)]
          exact compare_loop n a b hb (d - 1) (j + 1) m (by omega) (by omega) (by omega) (take_succ_eq hlt hjb' ht hx) (by omega)
        · left
          have hne : a ≠ b := fun hab => by subst hab; exact hx rfl
          by_cases hl : a[j] < b[j]
          · simp only [hl, if_true]
            exact ⟨-1, rfl, by decide, hne⟩
          · have hg : b[j] < a[j] := by omega
            simp only [hl, if_false, gt_iff_lt, hg, if_true]
            exact ⟨1, rfl, by decide, hne⟩
    · have h1 : decide ((j : Int) < (a.length : Int)) = false := by simpa using hlt
      simp only [h1, cond_false]
      have : j = a.length := by omega
      subst this
      exact .inr ⟨trivial, hjb, by simpa using ht⟩

theorem compare_spec (n : Nat) (a b : List Int) (hb : a.length ≤ 1000) (hn : 1001 ≤ n) : ∃ c, m_slices_Compare___int_int_ n (ints .i64 a) (ints .i64 b) = some c ∧ (c = 0 ↔ a = b) := by
  unfold m_slices_Compare___int_int_
  simp only [ints_len]
  rcases compare_loop n a b hb a.length 0 n (by omega) (by omega) (by omega) rfl (by omega) with ⟨c, h1, h2, h3⟩ | ⟨h1, h2, h3⟩
  · refine ⟨c, ?_, by simp [h2, h3]⟩
    have h1 : l_slices_Compare___int_int__2 n n (ints .i64 a, ints .i64 b, ints .i64 a, (a.length : Int), 0) = _ := h1
    rw [h1]; rfl
  · have h1 : l_slices_Compare___int_int__2 n n (ints .i64 a, ints .i64 b, ints .i64 a, (a.length : Int), 0) = _ := h1
    rw [h1]
    simp only [Option.bind_some, Sum.elim_inr, ints_len]
    by_cases hl : a.length < b.length
    · refine ⟨-1, by simp [hl], ?_⟩
      have : a ≠ b := fun hab => by subst hab; omega
      simp [this]
    · refine ⟨0, by simp [hl], ?_⟩
      have : b.take a.length = b := List.take_of_length_le (by omega)
      rw [this] at h3
      simp [h3]

theorem or3 (n : Nat) (a b k : Int) (hn : 4 ≤ n) : m_cmp_Or_int_ n [T.sc (.int .i64 a), T.sc (.int .i64 b), T.sc (.int .i64 k)] = some (if a ≠ 0 then a else if b ≠ 0 then b else k) := by
  obtain ⟨m, rfl⟩ : ∃ m, n = m + 4 := ⟨n - 4, by omega⟩
  have i0 : idx true [.int .i64] [T.sc (.int .i64 a), T.sc (.int .i64 b), T.sc (.int .i64 k)] 0 = some (T.sc (.int .i64 a)) := rfl
  have i1 : idx true [.int .i64] [T.sc (.int .i64 a), T.sc (.int .i64 b), T.sc (.int .i64 k)] 1 = some (T.sc (.int .i64 b)) := rfl
  have i2 : idx true [.int .i64] [T.sc (.int .i64 a), T.sc (.int .i64 b), T.sc (.int .i64 k)] 2 = some (T.sc (.int .i64 k)) := rfl
  have hc : ∀ x : Int, ((T.sc (.int .i64 x)).cell 0).int = x := fun x => rfl
  have w0 : IntKind.wrap .i64 1 = 1 := by decide
  have w1 : IntKind.wrap .i64 2 = 2 := by decide
  have w2 : IntKind.wrap .i64 3 = 3 := by decide
  unfold m_cmp_Or_int_
  simp only [l_cmp_Or_int__3, l_cmp_Or_int__3_B, List.length_cons, List.length_nil]
  simp only [i0, Option.bind_some, hc]
  by_cases ha : a = 0
  · subst ha
    by_cases hb : b = 0
    · subst hb
      by_cases hk : k = 0
      · subst hk; simp [i1, i2, hc, w0, w1, w2]
      · have hk' : (k != 0) = true := by simpa using hk
        simp [i1, i2, hc, w0, w1, w2, hk']
    · have hb' : (b != 0) = true := by simpa using hb
      simp [i1, i2, hc, w0, w1, w2, hb', hb]
  · have ha' : (a != 0) = true := by simpa using ha
    simp [ha', ha]

/-- Small enough. -/
def Oc.ok (x : Oc) : Prop := x.v.length ≤ 1000 ∧ x.o.length ≤ 1000

theorem heapSame (n : Nat) (x y : Oc) (hx : x.ok) (hn : 1001 ≤ n) : m_heap_SameOutcome n (ints .i64 x.v) (ints .i64 x.o) x.f (ints .i64 y.v) (ints .i64 y.o) y.f = some (decide (x = y)) := by
  obtain ⟨c1, h1, e1⟩ := compare_spec n x.v y.v hx.1 hn
  obtain ⟨c2, h2, e2⟩ := compare_spec n x.o y.o hx.2 hn
  obtain ⟨xv, xo, xf⟩ := x
  obtain ⟨yv, yo, yf⟩ := y
  simp only at h1 h2 e1 e2
  unfold m_heap_SameOutcome m_heap_compare
  simp only [h1, h2, Option.bind_some, or3 n _ _ _ (by omega : 4 ≤ n)]
  by_cases a1 : c1 = 0 <;> by_cases a2 : c2 = 0 <;> cases xf <;> cases yf <;> simp_all

theorem sameInts_loop (n : Nat) (a b : List Int) (hab : a.length = b.length) (hb : a.length ≤ 1000) : ∀ (d j m : Nat), d = a.length - j → j ≤ a.length → a.take j = b.take j → d < m →
    l_sutureref13_SameInts_4 n m (ints .i64 a, ints .i64 b, (j : Int)) = some (if a = b then .inr () else .inl false)
  | d, j, 0, _, _, _, h => by omega
  | d, j, m + 1, hd, hj, ht, hm => by
    simp only [l_sutureref13_SameInts_4, l_sutureref13_SameInts_4_B, ints_len]
    by_cases hlt : j < a.length
    · have h1 : decide ((j : Int) < (a.length : Int)) = true := by simpa using hlt
      have hc : ∀ x : Int, ((int1 x).cell 0).int = x := fun x => rfl
      simp only [h1, cond_true, idx_ints hlt, idx_ints (show j < b.length by omega), Option.bind_some, hc]
      by_cases hx : a[j] = b[j]
      · simp only [hx, bne_self_eq_false, cond_false, wrap_nat (show j ≤ 100000 by omega)]
        exact sameInts_loop n a b hab hb (d - 1) (j + 1) m (by omega) (by omega) (take_succ_eq hlt (by omega) ht hx) (by omega)
      · have hne : a ≠ b := fun h => by subst h; exact hx rfl
        have : (a[j] != b[j]) = true := by simpa using hx
        simp only [this, cond_true, hne, if_false]
    · have h1 : decide ((j : Int) < (a.length : Int)) = false := by simpa using hlt
      have : j = a.length := by omega
      subst this
      rw [List.take_length, hab, List.take_length] at ht
      simp only [h1, cond_false]
      rw [if_pos ht]

theorem sameInts (n : Nat) (a b : List Int) (hb : a.length ≤ 1000) (hn : 1001 ≤ n) : m_sutureref13_SameInts n (ints .i64 a) (ints .i64 b) = some (decide (a = b)) := by
  unfold m_sutureref13_SameInts
  simp only [ints_len]
  by_cases hab : a.length = b.length
  · have h1 : ((a.length : Int) != (b.length : Int)) = false := by simp [hab]
    have := sameInts_loop n a b hab hb a.length 0 n (by omega) (by omega) rfl (by omega)
    have this : l_sutureref13_SameInts_4 n n (ints .i64 a, ints .i64 b, 0) = _ := this
    simp only [h1, cond_false, this, Option.bind_some]
    by_cases h : a = b <;> simp [h]
  · have h1 : ((a.length : Int) != (b.length : Int)) = true := by simp; omega
    have : a ≠ b := fun h => hab (by rw [h])
    simp only [h1, cond_true, this, decide_false]

theorem refSame (n : Nat) (x y : Oc) (hx : x.ok) (hn : 1001 ≤ n) : m_sutureref13_SameOutcome n (ints .i64 x.v) (ints .i64 x.o) x.f (ints .i64 y.v) (ints .i64 y.o) y.f = some (decide (x = y)) := by
  obtain ⟨xv, xo, xf⟩ := x
  obtain ⟨yv, yo, yf⟩ := y
  unfold m_sutureref13_SameOutcome
  simp only [sameInts n xv yv hx.1 hn, Option.bind_some]
  by_cases h1 : xv = yv
  · simp only [h1, decide_true, cond_true]
    rw [sameInts n xo yo hx.2 hn]
    by_cases h2 : xo = yo <;> cases xf <;> cases yf <;> simp [h2]
  · simp [h1]

/-! what stands in what -/

theorem any_drop {α : Type} {p : α → Bool} {xs : List α} {j : Nat} (h : j < xs.length) : (xs.drop j).any p = (p xs[j] || (xs.drop (j + 1)).any p) := by
  rw [List.drop_eq_getElem_cons h, List.any_cons]
theorem any_drop_end {α : Type} {p : α → Bool} {xs : List α} {j : Nat} (h : xs.length ≤ j) : (xs.drop j).any p = false := by
  rw [List.drop_eq_nil_of_le h]; rfl

theorem within11 (n : Nat) (x y : Oc) (hy : y.ok) (hn : 1001 ≤ n) : m_judge_Within_1_1 n (ints .i64 x.v) (ints .i64 x.o) x.f (ints .i64 y.v) (ints .i64 y.o) y.f = some (decide (y = x), ints .i64 y.v, ints .i64 y.o, y.f) := by
  unfold m_judge_Within_1_1
  rw [heapSame n y x hy hn]; rfl

/-- Of a list of outcomes the first that is one. -/
theorem index2_loop (n : Nat) (hn : 1001 ≤ n) (xs : List Oc) (y : Oc) (hy : y.ok) (hl : xs.length ≤ 1000) : ∀ (d j m : Nat), d = xs.length - j → d < m →
    (∃ k : Nat, (xs.drop j).any (fun x => decide (y = x)) = true ∧ l_slices_IndexFunc___api_Outcome_api_Outcome__v2_2 n m (xs.map Oc.enc, (xs.length : Int), (j : Int), ints .i64 y.v, ints .i64 y.o, y.f) = some (.inl ((k : Int), ints .i64 y.v, ints .i64 y.o, y.f))) ∨
    ((xs.drop j).any (fun x => decide (y = x)) = false ∧ l_slices_IndexFunc___api_Outcome_api_Outcome__v2_2 n m (xs.map Oc.enc, (xs.length : Int), (j : Int), ints .i64 y.v, ints .i64 y.o, y.f) = some (.inr (ints .i64 y.v, ints .i64 y.o, y.f)))
  | d, j, 0, _, h => by omega
  | d, j, m + 1, hd, hm => by
    simp only [l_slices_IndexFunc___api_Outcome_api_Outcome__v2_2, l_slices_IndexFunc___api_Outcome_api_Outcome__v2_2_B]
    by_cases hlt : j < xs.length
    · have h1 : decide ((j : Int) < (xs.length : Int)) = true := by simpa using hlt
      have c0 : (xs[j].enc.cell 0).lst = ints .i64 xs[j].v := rfl
      have c1 : (xs[j].enc.cell 1).lst = ints .i64 xs[j].o := rfl
      have c2 : (xs[j].enc.cell 2).bool = xs[j].f := rfl
      simp only [h1, cond_true, idx_oc hlt, Option.bind_some, c0, c1, c2, within11 n _ y hy hn, any_drop hlt]
      by_cases hx : y = xs[j]
      · exact .inl ⟨j, by simp [← hx], by simp [← hx]⟩
      · simp only [hx, decide_false, cond_false, Bool.false_or, wrap_nat (show j ≤ 100000 by omega)]
        exact index2_loop n hn xs y hy hl (d - 1) (j + 1) m (by omega) (by omega)
    · have h1 : decide ((j : Int) < (xs.length : Int)) = false := by simpa using hlt
      exact .inr ⟨any_drop_end (by omega), by simp only [h1, cond_false]⟩

theorem contains2 (n : Nat) (hn : 1001 ≤ n) (xs : List Oc) (y : Oc) (hy : y.ok) (hl : xs.length ≤ 1000) :
    m_slices_ContainsFunc___api_Outcome_api_Outcome__v2 n (xs.map Oc.enc) (ints .i64 y.v) (ints .i64 y.o) y.f = some (xs.any (fun x => decide (y = x)), ints .i64 y.v, ints .i64 y.o, y.f) := by
  unfold m_slices_ContainsFunc___api_Outcome_api_Outcome__v2 m_slices_IndexFunc___api_Outcome_api_Outcome__v2
  simp only [List.length_map]
  rcases index2_loop n hn xs y hy hl xs.length 0 n (by omega) (by omega) with ⟨k, h1, h2⟩ | ⟨h1, h2⟩
  · have h2 : l_slices_IndexFunc___api_Outcome_api_Outcome__v2_2 n n (xs.map Oc.enc, (xs.length : Int), 0, ints .i64 y.v, ints .i64 y.o, y.f) = _ := h2
    rw [List.drop_zero] at h1
    have hk : (0 : Int) ≤ (k : Int) := by omega
    rw [h2, h1]
    simp [hk]
  · have h2 : l_slices_IndexFunc___api_Outcome_api_Outcome__v2_2 n n (xs.map Oc.enc, (xs.length : Int), 0, ints .i64 y.v, ints .i64 y.o, y.f) = _ := h2
    rw [List.drop_zero] at h1
    rw [h2, h1]
    simp

theorem within1 (n : Nat) (hn : 1001 ≤ n) (x : Oc) (ys : List Oc) (hx : x.ok) (hl : ys.length ≤ 1000) : m_judge_Within_1 n (ints .i64 x.v) (ints .i64 x.o) x.f (ys.map Oc.enc) = some (!(ys.any fun y => decide (x = y)), ys.map Oc.enc) := by
  unfold m_judge_Within_1
  rw [contains2 n hn ys x hx hl]; rfl

theorem index1_loop (n : Nat) (hn : 1001 ≤ n) (xs ys : List Oc) (hx : ∀ x ∈ xs, x.ok) (hl : xs.length ≤ 1000) (hly : ys.length ≤ 1000) : ∀ (d j m : Nat), d = xs.length - j → d < m →
    (∃ k : Nat, (xs.drop j).any (fun x => !(ys.any fun y => decide (x = y))) = true ∧ l_slices_IndexFunc___api_Outcome_api_Outcome__2 n m (xs.map Oc.enc, (xs.length : Int), (j : Int), ys.map Oc.enc) = some (.inl ((k : Int), ys.map Oc.enc))) ∨
    ((xs.drop j).any (fun x => !(ys.any fun y => decide (x = y))) = false ∧ l_slices_IndexFunc___api_Outcome_api_Outcome__2 n m (xs.map Oc.enc, (xs.length : Int), (j : Int), ys.map Oc.enc) = some (.inr (ys.map Oc.enc)))
  | d, j, 0, _, h => by omega
  | d, j, m + 1, hd, hm => by
    simp only [l_slices_IndexFunc___api_Outcome_api_Outcome__2, l_slices_IndexFunc___api_Outcome_api_Outcome__2_B]
    by_cases hlt : j < xs.length
    · have h1 : decide ((j : Int) < (xs.length : Int)) = true := by simpa using hlt
      have c0 : (xs[j].enc.cell 0).lst = ints .i64 xs[j].v := rfl
      have c1 : (xs[j].enc.cell 1).lst = ints .i64 xs[j].o := rfl
      have c2 : (xs[j].enc.cell 2).bool = xs[j].f := rfl
      simp only [h1, cond_true, idx_oc hlt, Option.bind_some, c0, c1, c2, within1 n hn xs[j] ys (hx _ (List.getElem_mem hlt)) hly, any_drop hlt]
      cases hq : (ys.any fun y => decide (xs[j] = y)) with
      | false => exact .inl ⟨j, by simp, by simp⟩
      | true =>
        simp only [Bool.not_true, cond_false, Bool.false_or, wrap_nat (show j ≤ 100000 by omega)]
        exact index1_loop n hn xs ys hx hl hly (d - 1) (j + 1) m (by omega) (by omega)
    · have h1 : decide ((j : Int) < (xs.length : Int)) = false := by simpa using hlt
      exact .inr ⟨any_drop_end (by omega), by simp only [h1, cond_false]⟩

/-- All of the one stand in the other. -/
def inB (xs ys : List Oc) : Bool := xs.all fun x => ys.any fun y => decide (x = y)

theorem within_spec (n : Nat) (hn : 1001 ≤ n) (xs ys : List Oc) (hx : ∀ x ∈ xs, x.ok) (hl : xs.length ≤ 1000) (hly : ys.length ≤ 1000) : m_judge_Within n (xs.map Oc.enc) (ys.map Oc.enc) = some (inB xs ys) := by
  have e : inB xs ys = !(xs.any (fun x => !(ys.any fun y => decide (x = y)))) := by
    unfold inB; rw [List.all_eq_not_any_not]
  unfold m_judge_Within m_slices_ContainsFunc___api_Outcome_api_Outcome_ m_slices_IndexFunc___api_Outcome_api_Outcome_
  simp only [List.length_map]
  rcases index1_loop n hn xs ys hx hl hly xs.length 0 n (by omega) (by omega) with ⟨k, h1, h2⟩ | ⟨h1, h2⟩
  · have h2 : l_slices_IndexFunc___api_Outcome_api_Outcome__2 n n (xs.map Oc.enc, (xs.length : Int), 0, ys.map Oc.enc) = _ := h2
    rw [List.drop_zero] at h1
    have hk : (0 : Int) ≤ (k : Int) := by omega
    rw [h2, e, h1]
    simp [hk]
  · have h2 : l_slices_IndexFunc___api_Outcome_api_Outcome__2 n n (xs.map Oc.enc, (xs.length : Int), 0, ys.map Oc.enc) = _ := h2
    rw [List.drop_zero] at h1
    rw [h2, e, h1]
    simp

end Go.Proofs.Ytgpokdaacbjimac.W
