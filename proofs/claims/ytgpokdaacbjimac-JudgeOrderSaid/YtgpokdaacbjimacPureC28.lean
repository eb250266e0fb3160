/- Chapter 28, plain, third part: the laws. No program in sight. -/
import Derived.Test.YtgpokdaacbjimacPureB28
namespace Go.Proofs.Ytgpokdaacbjimac.W
open Go Go.Eng
set_option linter.unusedVariables false
set_option linter.unusedSimpArgs false

theorem wrap_id {v : Int} (h : -9223372036854775808 ≤ v ∧ v ≤ 9223372036854775807) : IntKind.wrap .i64 v = v := by
  rw [IntKind.wrap_i64]; omega

theorem pick_in (n : Nat) (a m : Int) (h0 : 0 < m) (h7 : m ≤ 100) : ∃ r, m_suturehand_Pick n a m = some r ∧ 0 ≤ r ∧ r < m := by
  unfold m_suturehand_Pick must
  have e1 : Int.tmod a m < m := Int.tmod_lt_of_pos a h0
  have e2 : -m < Int.tmod a m := by
    have := Int.tmod_lt_of_pos (-a) h0
    rw [Int.neg_tmod] at this
    omega
  have hm : m ≠ 0 := by omega
  by_cases hn : Int.tmod a m < 0
  · refine ⟨Int.tmod a m + m, ?_, by omega, by omega⟩
    simp [hm, hn, wrap_id (v := Int.tmod a m + m) (by omega)]
  · refine ⟨Int.tmod a m, ?_, by omega, by omega⟩
    simp [hm, hn]

theorem enc_made (a : Int) (k : Nat) (f : Bool) : T.agg [T.list [T.sc (.int .i64 a)], T.list (List.replicate k (T.sc (.int .i64 0))), T.sc (.bool f)] = Oc.enc ⟨[a], List.replicate k 0, f⟩ := by
  simp [Oc.enc, ints]

theorem sized3 (xs : List Oc) : sized 3 (xs.map Oc.enc) = true := by
  simp [sized, Oc.enc, T.cells]
theorem sized1 (xs : List ByteArray) : sized 1 (xs.map str1) = true := by
  simp [sized, str1, T.cells]

theorem must_ok {R : Type} {φ : Bool} {r : Option R} (h : φ = true) : must true φ r = r := by simp [must, h]

theorem made_loop (n : Nat) (l : List Int) (t : List T) (z : Int) : ∀ (d j m : Nat) (ac : List Oc), d = 5 - j → j ≤ 5 → d < m → ac.length ≤ j → (∀ x ∈ ac, x.ok) →
    ∃ ocs : List Oc, l_suturelaw28_result_3 n m (ints .i64 l, t, z, (j : Int), [], [], [], 0, 0, ac.map Oc.enc, [], [], 0, 0) = some (t, z, [], [], [], 0, 0, ocs.map Oc.enc, [], [], 0, 0) ∧ ocs.length ≤ 5 ∧ ∀ x ∈ ocs, x.ok
  | d, j, 0, ac, _, _, h, _, _ => by omega
  | d, j, m + 1, ac, hd, hj, hm, hac, hok => by
    simp only [l_suturelaw28_result_3, l_suturelaw28_result_3_B, ints_len]
    by_cases hlt : j < l.length ∧ j < 5
    · obtain ⟨hl, h5⟩ := hlt
      have h1 : decide ((j : Int) < (l.length : Int)) = true := by simpa using hl
      have h2 : decide ((j : Int) < 5) = true := by simp; omega
      obtain ⟨r1, p1, _, _⟩ := pick_in n l[j] 3 (by decide) (by decide)
      obtain ⟨r3, p3, q3, q3'⟩ := pick_in n (IntKind.wrap .i64 (Int.tdiv l[j] 3)) 2 (by decide) (by decide)
      obtain ⟨r5, p5, _, _⟩ := pick_in n (IntKind.wrap .i64 (Int.tdiv l[j] 6)) 5 (by decide) (by decide)
      have hc : ((int1 l[j]).cell 0).int = l[j] := rfl
      simp only [h1, h2, cond_true, idx_ints hl, Option.bind_some, hc, p1, p3, p5, enc_made]
      rw [must_ok (by decide), must_ok (by simp; omega), must_ok (by decide), must_ok]
      · have hw := wrap_nat (show j ≤ 100000 by omega)
        rw [hw]
        have := made_loop n l t z (d - 1) (j + 1) m (ac ++ [⟨[r1], List.replicate r3.toNat 0, r5 == 4⟩]) (by omega) (by omega) (by omega) (by simp; omega) (by
          intro x hx
          simp only [List.mem_append, List.mem_singleton] at hx
          rcases hx with hx | rfl
          · exact hok x hx
          · exact ⟨by simp, by simp; omega⟩)
        simpa using this
      · have := sized3 [⟨[r1], List.replicate r3.toNat 0, r5 == 4⟩]
        simp only [List.map_cons, List.map_nil] at this
        simp only [List.length_map, this, List.length_cons, List.length_nil, Bool.and_true]
        simp; omega
    · have : (bif decide ((j : Int) < (l.length : Int)) then decide ((j : Int) < 5) else false) = false := by
        by_cases hl : j < l.length
        · have : ¬ j < 5 := fun h => hlt ⟨hl, h⟩
          simp; omega
        · simp; omega
      simp only [this, cond_false]
      exact ⟨ac, rfl, by omega, hok⟩

theorem stuck_loop (n : Nat) (l : List Int) (z : Int) (os : List T) : ∀ (d j m : Nat) (ac : List ByteArray), d = 3 - j → j ≤ 3 → d < m → ac.length ≤ j →
    ∃ st : List ByteArray, l_suturelaw28_result_7 n m (ints .i64 l, z, (j : Int), [], [], [], 0, 0, os, ac.map str1, [], 0, 0) = some (z, [], [], [], 0, 0, os, st.map str1, [], 0, 0) ∧ st.length ≤ 3
  | d, j, 0, ac, _, _, h, _ => by omega
  | d, j, m + 1, ac, hd, hj, hm, hac => by
    simp only [l_suturelaw28_result_7, l_suturelaw28_result_7_B, ints_len]
    by_cases hlt : j < l.length ∧ j < 3
    · obtain ⟨hl, h5⟩ := hlt
      have h1 : decide ((j : Int) < (l.length : Int)) = true := by simpa using hl
      have h2 : decide ((j : Int) < 3) = true := by simp; omega
      obtain ⟨r1, p1, a1, b1⟩ := pick_in n l[j] 3 (by decide) (by decide)
      have hc : ((int1 l[j]).cell 0).int = l[j] := rfl
      have hy : ∃ y : T, idx1 true (.str) [(T.sc (.string (⟨#[49, 32]⟩ : ByteArray))), (T.sc (.string (⟨#[50, 32]⟩ : ByteArray))), (T.sc (.string (⟨#[]⟩ : ByteArray)))] r1 = some y := by
        have : r1 = 0 ∨ r1 = 1 ∨ r1 = 2 := by omega
        rcases this with rfl | rfl | rfl <;> exact ⟨_, rfl⟩
      obtain ⟨y, hy⟩ := hy
      simp only [h1, h2, cond_true, idx_ints hl, Option.bind_some, hc, p1, hy]
      rw [must_ok]
      · rw [wrap_nat (show j ≤ 100000 by omega)]
        have := stuck_loop n l z os (d - 1) (j + 1) m (ac ++ [y.str]) (by omega) (by omega) (by omega) (by simp; omega)
        simpa [str1] using this
      · have := sized1 [y.str]
        simp only [List.map_cons, List.map_nil, str1] at this
        simp only [List.length_map, this, List.length_cons, List.length_nil, Bool.and_true]
        simp; omega
    · have : (bif decide ((j : Int) < (l.length : Int)) then decide ((j : Int) < 3) else false) = false := by
        by_cases hl : j < l.length
        · have : ¬ j < 3 := fun h => hlt ⟨hl, h⟩
          simp; omega
        · simp; omega
      simp only [this, cond_false]
      exact ⟨ac, rfl, by omega⟩

theorem made (n : Nat) (hn : 10 ≤ n) (l m : List Int) (z : Int) : ∃ r : Res, m_suturelaw28_result n (ints .i64 l) (ints .i64 m) z = some (r.oc.map Oc.enc, r.st.map str1, r.races, 0, 0) ∧ (∀ x ∈ r.oc, x.ok) ∧ r.oc.length ≤ 5 ∧ r.st.length ≤ 3 ∧ (z = 0 → r.races = []) := by
  obtain ⟨ocs, h1, h2, h3⟩ := made_loop n l (ints .i64 m) z 5 0 n [] rfl (by omega) (by omega) (by simp) (by simp)
  obtain ⟨st, k1, k2⟩ := stuck_loop n m z (ocs.map Oc.enc) 3 0 n [] rfl (by omega) (by omega) (by simp)
  have h1 : l_suturelaw28_result_3 n n (ints .i64 l, ints .i64 m, z, 0, [], [], [], 0, 0, [], [], [], 0, 0) = _ := h1
  have k1 : l_suturelaw28_result_7 n n (ints .i64 m, z, 0, [], [], [], 0, 0, ocs.map Oc.enc, [], [], 0, 0) = _ := k1
  unfold m_suturelaw28_result
  simp only [h1, k1, Option.bind_some]
  rw [must_ok (by decide)]
  by_cases hz : Int.tmod z 4 = 3
  · refine ⟨⟨ocs, st, [(T.agg [(T.sc (.int .i64 0)), (T.sc (.int .i64 1)), (T.sc (.int .i64 0)), (T.list ([] : List T))])]⟩, by simp [hz], h3, h2, k2, fun h => ?_⟩
    subst h
    simp at hz
  · have : (Int.tmod z 4 == 3) = false := by simpa using hz
    exact ⟨⟨ocs, st, []⟩, by simp [this], h3, h2, k2, fun _ => rfl⟩

theorem Res.small {r : Res} (h1 : ∀ x ∈ r.oc, x.ok) (h2 : r.oc.length ≤ 5) (h3 : r.st.length ≤ 3) : r.ok := ⟨h1, by omega, by omega⟩

theorem known_true (n : Nat) (hn : 1001 ≤ n) : m_suturelaw28_known n = some true := by
  have a1 := accepts n hn ⟨[], [], []⟩ ⟨[], [], [(T.agg [(T.sc (.int .i64 1)), (T.sc (.int .i64 0)), (T.sc (.int .i64 0)), (T.list ([] : List T))])]⟩ ⟨by simp, by simp, by simp⟩ ⟨by simp, by simp, by simp⟩ 0 0 0 0
  have a2 := accepts n hn ⟨[], [], []⟩ ⟨[], [], []⟩ ⟨by simp, by simp, by simp⟩ ⟨by simp, by simp, by simp⟩ 0 0 0 0
  simp only [List.map_nil] at a1 a2
  unfold m_suturelaw28_known
  rw [a1, a2]
  rfl

abbrev Wf (l : List Int) : Prop := ∀ x ∈ l, (Lit.int .i64 x).wf = true

theorem judgeTells (a b c d : List Int) (m n : Int) (_ : Wf a) (_ : Wf b) (_ : Wf c) (_ : Wf d) (_ : (Lit.int .i64 m).wf = true) (_ : (Lit.int .i64 n).wf = true) :
    ∃ k, m_suturelaw28_JudgeTells k (ints .i64 a) (ints .i64 b) (ints .i64 c) (ints .i64 d) m n = some true := by
  refine ⟨1001, ?_⟩
  obtain ⟨p, hp, p1, p2, p3, _⟩ := made 1001 (by omega) a b m
  obtain ⟨q, hq, q1, q2, q3, _⟩ := made 1001 (by omega) c d n
  have pk : p.ok := Res.small p1 p2 p3
  have qk : q.ok := Res.small q1 q2 q3
  unfold m_suturelaw28_JudgeTells
  simp only [hp, hq, Option.bind_some, known_true 1001 (by omega), cond_true]
  rw [accepts 1001 (by omega) p q pk qk, rAccepts 1001 (by omega) p q pk qk]
  simp only [Option.bind_some, beq_self_eq_true, cond_true]
  rw [within_spec 1001 (by omega) q.oc p.oc qk.1 (by omega) (by omega), rin 1001 (by omega) q.oc p.oc qk.1 (by omega) (by omega)]
  simp

/-! what goes on -/

theorem inB_iff {xs ys : List Oc} : inB xs ys = true ↔ ∀ x ∈ xs, x ∈ ys := by
  simp [inB, List.all_eq_true, List.any_eq_true]
theorem inS_iff {xs ys : List ByteArray} : inS xs ys = true ↔ ∀ x ∈ xs, ∃ y ∈ ys, x.toList = y.toList := by
  simp [inS, same, List.all_eq_true, List.any_eq_true]

theorem acc_iff {p q : Res} : acc p q = true ↔ q.races = [] ∧ (∀ x ∈ q.oc, x ∈ p.oc) ∧ (q.oc ≠ [] ∨ p.oc = []) ∧ ∀ x ∈ q.st, ∃ y ∈ p.st, x.toList = y.toList := by
  simp [acc, inB_iff, inS_iff, Bool.and_eq_true, and_assoc]

theorem acc_trans {p q r : Res} (h1 : acc p q = true) (h2 : acc q r = true) : acc p r = true := by
  rw [acc_iff] at *
  obtain ⟨_, a2, a3, a4⟩ := h1
  obtain ⟨b1, b2, b3, b4⟩ := h2
  refine ⟨b1, fun x hx => a2 x (b2 x hx), ?_, fun x hx => ?_⟩
  · rcases b3 with h | h
    · exact .inl h
    · rcases a3 with k | k
      · exact absurd h k
      · exact .inr k
  · obtain ⟨y, hy, e⟩ := b4 x hx
    obtain ⟨z, hz, e'⟩ := a4 y hy
    exact ⟨z, hz, e.trans e'⟩

theorem acc_refl {p : Res} (h : p.races = []) : acc p p = true := by
  rw [acc_iff]
  refine ⟨h, fun x hx => hx, ?_, fun x hx => ⟨x, hx, rfl⟩⟩
  cases p.oc with
  | nil => exact .inr rfl
  | cons a b => exact .inl (by simp)

theorem judgeSteps (a b c d e f : List Int) (m n : Int) (_ : Wf a) (_ : Wf b) (_ : Wf c) (_ : Wf d) (_ : Wf e) (_ : Wf f) (_ : (Lit.int .i64 m).wf = true) (_ : (Lit.int .i64 n).wf = true) :
    ∃ k, m_suturelaw28_JudgeSteps k (ints .i64 a) (ints .i64 b) (ints .i64 c) (ints .i64 d) (ints .i64 e) (ints .i64 f) m n = some true := by
  refine ⟨1001, ?_⟩
  obtain ⟨p, hp, p1, p2, p3, p4⟩ := made 1001 (by omega) a b 0
  obtain ⟨q, hq, q1, q2, q3, q4⟩ := made 1001 (by omega) c d 0
  obtain ⟨r, hr, r1, r2, r3, _⟩ := made 1001 (by omega) e f m
  have pk : p.ok := Res.small p1 p2 p3
  have qk : q.ok := Res.small q1 q2 q3
  have rk : r.ok := Res.small r1 r2 r3
  let more : Res := ⟨p.oc ++ r.oc, p.st ++ r.st, p.races⟩
  have mk : more.ok := ⟨fun x hx => by
    simp only [more, List.mem_append] at hx
    rcases hx with hx | hx
    · exact p1 x hx
    · exact r1 x hx, by simp [more]; omega, by simp [more]; omega⟩
  have A : ∀ (x y : Res), x.ok → y.ok → ∀ s t u v, m_judge_Accepts 1001 (x.oc.map Oc.enc) (x.st.map str1) x.races s t (y.oc.map Oc.enc) (y.st.map str1) y.races u v = some (acc x y) := fun x y hx hy s t u v => accepts 1001 (by omega) x y hx hy s t u v
  have Am : m_judge_Accepts 1001 (([] ++ p.oc.map Oc.enc) ++ r.oc.map Oc.enc) (([] ++ p.st.map str1) ++ r.st.map str1) p.races 0 0 (q.oc.map Oc.enc) (q.st.map str1) q.races 0 0 = some (acc more q) := by
    have := A more q mk qk 0 0 0 0
    simpa [more] using this
  unfold m_suturelaw28_JudgeSteps
  simp only [hp, hq, hr, Option.bind_some, known_true 1001 (by omega)]
  rw [must_ok (by simp [sized3]; omega), must_ok (by simp [sized3]; omega), must_ok (by simp [sized1]; omega), must_ok (by simp [sized1]; omega)]
  simp only [A p q pk qk, A q r qk rk, A p r pk rk, A p p pk pk, Am, Option.bind_some]
  have hpp : acc p p = true := acc_refl (p4 rfl)
  have hr0 : r.races ≠ [] → acc p r = false := by
    intro h
    cases hx : acc p r with
    | false => rfl
    | true => exact absurd (acc_iff.1 hx).1 h
  have hmore : acc p q = true → ¬ (p.oc = [] ∧ r.oc ≠ []) → acc more q = true := by
    intro h1 h2
    rw [acc_iff] at h1 ⊢
    obtain ⟨a1, a2, a3, a4⟩ := h1
    refine ⟨a1, fun x hx => by simp [more, a2 x hx], ?_, fun x hx => ?_⟩
    · rcases a3 with h | h
      · exact .inl h
      · by_cases hro : r.oc = []
        · right; simp [more, h, hro]
        · exact absurd ⟨h, hro⟩ h2
    · obtain ⟨y, hy, e⟩ := a4 x hx
      exact ⟨y, by simp [more, hy], e⟩
  have htr : acc p q = true → acc q r = true → acc p r = true := fun h1 h2 => acc_trans h1 h2
  have hlen : ∀ {α : Type} (l : List α), decide (((l.length : Nat) : Int) > 0) = !l.isEmpty := by
    intro α l
    cases l with
    | nil => rfl
    | cons a b => simp
  have hlen0 : ∀ {α : Type} (l : List α), (((l.length : Nat) : Int) == 0) = l.isEmpty := by
    intro α l
    cases l with
    | nil => rfl
    | cons a b => simp; omega
  simp only [hlen, hlen0, hpp, List.length_map, List.isEmpty_map]
  have hr1 : r.races.isEmpty = false → acc p r = false := fun h => hr0 (fun hh => by rw [hh] at h; cases h)
  have hm1 : acc p q = true → (p.oc.isEmpty && !r.oc.isEmpty) = false → acc more q = true := by
    intro h1 h2
    refine hmore h1 ?_
    rintro ⟨k1, k2⟩
    rw [k1] at h2
    cases hro : r.oc with
    | nil => exact k2 hro
    | cons a b => rw [hro] at h2; cases h2
  clear hmore hr0 Am A hlen hlen0 hp hq hr p1 q1 r1 pk qk rk mk
  generalize acc more q = x7 at *
  generalize acc p q = x1 at *
  generalize acc q r = x2 at *
  generalize acc p r = x3 at *
  generalize r.races.isEmpty = x4 at *
  generalize p.oc.isEmpty = x5 at *
  generalize r.oc.isEmpty = x6 at *
  cases x1 <;> cases x2 <;> cases x3 <;> cases x4 <;> cases x5 <;> cases x6 <;> cases x7 <;> first | rfl | exact absurd (htr rfl rfl) (by decide) | exact absurd (hr1 rfl) (by decide) | exact absurd (hm1 rfl rfl) (by decide)

/-! the order -/

theorem acc_congr {p p' q q' : Res} (h1 : ∀ x, x ∈ p.oc ↔ x ∈ p'.oc) (h2 : ∀ x, x ∈ q.oc ↔ x ∈ q'.oc) (h3 : ∀ x, x ∈ p.st ↔ x ∈ p'.st) (h4 : ∀ x, x ∈ q.st ↔ x ∈ q'.st) (h5 : q.races = q'.races) : acc p q = acc p' q' := by
  have empty : ∀ {a b : List Oc}, (∀ x, x ∈ a ↔ x ∈ b) → (a = [] ↔ b = []) := by
    intro a b h
    rw [List.eq_nil_iff_forall_not_mem, List.eq_nil_iff_forall_not_mem]
    exact ⟨fun k x hx => k x ((h x).2 hx), fun k x hx => k x ((h x).1 hx)⟩
  apply Bool.eq_iff_iff.2
  rw [acc_iff, acc_iff, h5]
  have e1 := empty h1
  have e2 := empty h2
  constructor
  · rintro ⟨a1, a2, a3, a4⟩
    refine ⟨a1, fun x hx => (h1 x).1 (a2 x ((h2 x).2 hx)), ?_, fun x hx => ?_⟩
    · rcases a3 with a | a
      · exact .inl fun k => a (e2.2 k)
      · exact .inr (e1.1 a)
    · obtain ⟨y, hy, e⟩ := a4 x ((h4 x).2 hx)
      exact ⟨y, (h3 y).1 hy, e⟩
  · rintro ⟨a1, a2, a3, a4⟩
    refine ⟨a1, fun x hx => (h1 x).2 (a2 x ((h2 x).1 hx)), ?_, fun x hx => ?_⟩
    · rcases a3 with a | a
      · exact .inl fun k => a (e2.1 k)
      · exact .inr (e1.2 a)
    · obtain ⟨y, hy, e⟩ := a4 x ((h4 x).1 hx)
      exact ⟨y, (h3 y).2 hy, e⟩

theorem take_mem {α : Type} {xs : List α} {j : Nat} (h : j < xs.length) (x : α) : x ∈ xs.take (j + 1) ↔ x ∈ xs.take j ∨ x = xs[j] := by
  rw [List.take_add_one, List.getElem?_eq_getElem h]
  simp only [List.mem_append, Option.toList_some, List.mem_singleton]

theorem down_int (j : Nat) : decide ((j : Int) ≥ 0) = true := by simp
theorem oc_back (x : Oc) : T.agg [T.list (x.enc.cell 0).lst, T.list (x.enc.cell 1).lst, T.sc (.bool (x.enc.cell 2).bool)] = x.enc := rfl

/-- Outcomes, from the last on, each twice. -/
theorem order6 (n : Nat) (xs : List Oc) (hl : xs.length ≤ 5) (a1 a2 a3 : List T) (a4 a5 : Int) (b2 b3 : List T) (b4 b5 : Int) (c2 c3 : List T) (c4 c5 : Int) (d1 d2 d3 : List T) (d4 d5 : Int) : ∀ (j m : Nat) (ac : List Oc), j ≤ xs.length → j < m → ac.length + 2 * j ≤ 100 →
    ∃ ys : List Oc, l_suturelaw28_JudgeOrder_6 n m ((j : Int) - 1, a1, a2, a3, a4, a5, xs.map Oc.enc, b2, b3, b4, b5, ac.map Oc.enc, c2, c3, c4, c5, d1, d2, d3, d4, d5) = some (a1, a2, a3, a4, a5, xs.map Oc.enc, b2, b3, b4, b5, ys.map Oc.enc, c2, c3, c4, c5, d1, d2, d3, d4, d5) ∧ (∀ x, x ∈ ys ↔ x ∈ ac ∨ x ∈ xs.take j) ∧ ys.length = ac.length + 2 * j
  | 0, m, ac, _, hm, _ => by
    obtain ⟨m, rfl⟩ : ∃ k, m = k + 1 := ⟨m - 1, by omega⟩
    simp only [l_suturelaw28_JudgeOrder_6, l_suturelaw28_JudgeOrder_6_B]
    have : decide (((0 : Nat) : Int) - 1 ≥ 0) = false := by decide
    simp only [this, cond_false]
    exact ⟨ac, rfl, by simp, by simp⟩
  | j + 1, m, ac, hj, hm, hb => by
    obtain ⟨m, rfl⟩ : ∃ k, m = k + 1 := ⟨m - 1, by omega⟩
    have e : ((j + 1 : Nat) : Int) - 1 = (j : Int) := by omega
    simp only [l_suturelaw28_JudgeOrder_6, l_suturelaw28_JudgeOrder_6_B, e, down_int, cond_true, idx_oc (show j < xs.length by omega), Option.bind_some, oc_back]
    rw [must_ok, wrap_down (by omega)]
    · obtain ⟨ys, h1, h2, h3⟩ := order6 n xs hl a1 a2 a3 a4 a5 b2 b3 b4 b5 c2 c3 c4 c5 d1 d2 d3 d4 d5 j m (ac ++ [xs[j], xs[j]]) (by omega) (by omega) (by simp; omega)
      refine ⟨ys, by simpa using h1, fun x => ?_, by rw [h3]; simp; omega⟩
      rw [h2, take_mem (show j < xs.length by omega)]
      simp only [List.mem_append, List.mem_cons, List.not_mem_nil, or_false, or_self]
      constructor
      · rintro ((h | h) | h)
        · exact .inl h
        · exact .inr (.inr h)
        · exact .inr (.inl h)
      · rintro (h | h | h)
        · exact .inl (.inl h)
        · exact .inr h
        · exact .inl (.inr h)
    · have := sized3 [xs[j], xs[j]]
      simp only [List.map_cons, List.map_nil] at this
      simp only [List.length_map, this, List.length_cons, List.length_nil, Bool.and_true]
      simp; omega

end Go.Proofs.Ytgpokdaacbjimac.W
