/- Chapter 9, plain: gotos' targets, exactly: the program's, the document's. No conditions. -/
import Derived.Test.YtgpokdaacbjimabJI
namespace Go.Proofs.Ytgpokdaacbjimab.W
open Go Go.Eng
set_option linter.unusedVariables false
set_option linter.unusedSimpArgs false
set_option linter.unusedSectionVars false

/-! the document's marks -/
def i8 (b : Nat) : T := .sc (.int .i64 ((b + 1 : Nat) : Int))
def encM8 (x : Pl) : T := match x.s with
  | .mk kind name other num ek en es eof body els re im => T.agg [(T.sc (.int .i64 kind)), (T.sc (.string name)), (T.sc (.string other)), (T.sc (.int .i64 num)), (T.sc (.int .i64 ek)), (T.sc (.int .i64 en)), (T.sc (.string es)), (T.list eof), (T.list (encSLJ body)), (T.list (encSLJ els)), (T.sc (.complex .f64 re im)), T.list (x.ar.map i8), (T.sc (.int .i64 (x.th : Int)))]
theorem sized_i8 (l : List Nat) : sized 1 (l.map i8) = true := by
  unfold sized
  rw [List.all_eq_true]
  intro y hy
  obtain ⟨t, _, rfl⟩ := List.mem_map.1 hy
  rfl
theorem sized_M8 (X : List Pl) : sized 13 (X.map encM8) = true := by
  unfold sized
  rw [List.all_eq_true]
  intro y hy
  obtain ⟨⟨⟨kind, name, other, num, ek, en, es, eof, body, els, re, im⟩, th, ar, c⟩, _, rfl⟩ := List.mem_map.1 hy
  rfl
def MV (g : List T → List T → Int → Int → Option ((List T) × Int)) (l : List S) : Prop :=
  ∀ (th : Nat) (ar : List Nat) (k : Nat), ar.length ≤ k → cntL l ≤ 100000 → k + 2 * cntL l ≤ 100000 → g (encSLJ l) (ar.map i8) (th : Int) (k : Int) = some ((plL th l (ar ++ [k]) (k + 1)).1.map encM8, (((plL th l (ar ++ [k]) (k + 1)).2 : Nat) : Int))

section
variable {n : Nat}
theorem mark_loop {b : B_sutureref8_marks} {K : Nat} (hb : ∀ l', cntL l' < K → MV b.sutureref8_marks l') (th : Nat) (ar : List Nat) : ∀ (m : Nat) (r pre : List S) (out : List T) (k : Nat), r.length < m → cntL r ≤ K → ar.length ≤ k → out.length + cntL r ≤ 100000 → k + 2 * cntL r ≤ 100001 → pre.length + cntL r ≤ 100000 →
    l_sutureref8_marks_5 b n m (encSLJ (pre ++ r), (th : Int), ar.map i8, out, (pre.length : Int), (k : Int)) = some (out ++ (plL th r ar k).1.map encM8, (((plL th r ar k).2 : Nat) : Int)) := by
  intro m
  induction m with
  | zero => intro r pre out k hm; omega
  | succ m ih =>
    intro r pre out k hm hK hk ho hk2 hp
    rw [l_sutureref8_marks_5]
    unfold l_sutureref8_marks_5_B
    simp only
    cases r with
    | nil =>
      refine cond_no (decide_eq_false (by rw [encSL_lenJ]; simp)) ?_
      simp only [plL, List.map_nil, List.append_nil]
    | cons s r =>
      obtain ⟨kind, name, other, num, ek, en, es, eof, body, els, re, im⟩ := s
      simp only [cntL, S.cnt, List.length_cons] at hm hK ho hk2 hp
      obtain ⟨h1, h2, h3⟩ := plL_len th body (ar ++ [k]) (k + 1)
      obtain ⟨g1, g2, g3⟩ := plL_len th els (ar ++ [(plL th body (ar ++ [k]) (k + 1)).2]) ((plL th body (ar ++ [k]) (k + 1)).2 + 1)
      refine cond_yes (decide_eq_true (by rw [encSL_lenJ, List.length_append, List.length_cons]; omega)) ?_
      refine bind_eq (idx_SJ pre _ _ _ _ _ _ _ _ _ _ _ _ r) ?_
      refine must_is ?_ ?_
      · simp only [List.length_cons, List.length_nil, Bool.and_eq_true, decide_eq_true_eq]
        exact ⟨rfl, by omega, rfl⟩
      refine bind_eq (idx_SJ pre _ _ _ _ _ _ _ _ _ _ _ _ r) ?_
      refine bind_eq (hb body (by omega) th ar k hk (by omega) (by omega)) ?_
      refine must_is ?_ ?_
      · simp only [List.length_append, List.length_cons, List.length_nil, List.length_map, Bool.and_eq_true, decide_eq_true_eq]
        exact ⟨rfl, by omega, sized_M8 _⟩
      refine bind_eq (idx_SJ pre _ _ _ _ _ _ _ _ _ _ _ _ r) ?_
      refine bind_eq (hb els (by omega) th ar (plL th body (ar ++ [k]) (k + 1)).2 (by omega) (by omega) (by omega)) ?_
      refine must_is ?_ ?_
      · simp only [List.length_append, List.length_cons, List.length_nil, List.length_map, Bool.and_eq_true, decide_eq_true_eq]
        exact ⟨rfl, by omega, sized_M8 _⟩
      simp only
      rw [wrap_up (show pre.length ≤ 281474976710656 by omega)]
      have e : pre ++ S.mk kind name other num ek en es eof body els re im :: r = (pre ++ [S.mk kind name other num ek en es eof body els re im]) ++ r := by simp
      have el : ((pre.length + 1 : Nat) : Int) = (((pre ++ [S.mk kind name other num ek en es eof body els re im]).length : Nat) : Int) := by simp
      rw [e, el]
      refine (ih r _ _ _ (by omega) (by omega) (by omega) (by simp; omega) (by omega) (by simp; omega)).trans ?_
      simp only [plL, plS, List.append_assoc, List.map_append, List.map_cons, List.cons_append, List.nil_append]
      rfl

theorem mark_eq8 (hn : 100000 < n) : ∀ (m : Nat) (l : List S), cntL l < m → MV (unB_sutureref8_marks n m).sutureref8_marks l := by
  intro m
  induction m with
  | zero => intro l h; omega
  | succ m ih =>
    intro l hl th ar k hk ho hk2
    show f_sutureref8_marks (unB_sutureref8_marks n m) n (encSLJ l) (ar.map i8) (th : Int) (k : Int) = _
    unfold f_sutureref8_marks
    refine must_is ?_ ?_
    · simp only [List.length_map, List.length_nil, Bool.and_eq_true, decide_eq_true_eq]
      exact ⟨rfl, by omega, sized_i8 _⟩
    refine must_is ?_ ?_
    · simp only [List.length_append, List.length_map, List.length_cons, List.length_nil, Bool.and_eq_true, decide_eq_true_eq]
      exact ⟨rfl, by omega, rfl⟩
    rw [wrap_up (show k ≤ 281474976710656 by omega)]
    have e : ([] ++ ar.map i8) ++ [(T.sc (.int .i64 ((k + 1 : Nat) : Int)))] = (ar ++ [k]).map i8 := by simp [i8]
    rw [e]
    have hlen := len_cntL l
    refine bind_eq (mark_loop (n := n) (K := m) ih th (ar ++ [k]) n l [] [] (k + 1) (by omega) (by omega) (by simp; omega) (by simp; omega) (by omega) (by simp; omega)) ?_
    rfl

theorem all8 (hn : 100000 < n) (P : List (List S)) (hP : cntP P ≤ 6000) (hl : P.length ≤ 4) (d : List T) : m_sutureref8_all n d (encP P) = some ((plP P 0 0).1.map encM8) := by
  have loop : ∀ (m : Nat) (r pre : List (List S)) (out : List T) (k : Nat), r.length < m → pre.length + r.length ≤ 4 → out.length + cntP r ≤ 6000 → k + 2 * cntP r + r.length ≤ 20000 → ∀ s2,
      l_sutureref8_all_4 n m (out, (pre.length : Int), s2, encP (pre ++ r), (k : Int)) = some (out ++ (plP r pre.length k).1.map encM8, s2, encP (pre ++ r), (((plP r pre.length k).2 : Nat) : Int)) := by
    intro m
    induction m with
    | zero => intro r pre out k hm; omega
    | succ m ih =>
      intro r pre out k hm hp ho hk s2
      rw [l_sutureref8_all_4]
      unfold l_sutureref8_all_4_B
      simp only
      have hlP : (encP (pre ++ r)).length = pre.length + r.length := by simp [encP]
      cases r with
      | nil =>
        refine cond_no (decide_eq_false (by rw [hlP]; simp)) ?_
        simp only [plP, List.map_nil, List.append_nil]
      | cons l r =>
        simp only [cntP, List.length_cons] at hm hp ho hk
        obtain ⟨h1, h2, h3⟩ := plL_len pre.length l [k] (k + 1)
        refine cond_yes (decide_eq_true (by rw [hlP, List.length_cons]; omega)) ?_
        refine bind_eq (idx_P pre l r) ?_
        refine bind_eq (mark_eq8 hn n l (by omega) pre.length [] k (by simp) (by omega) (by omega)) ?_
        refine must_is ?_ ?_
        · simp only [List.nil_append, List.length_map, Bool.and_eq_true, decide_eq_true_eq]
          exact ⟨rfl, by omega, sized_M8 _⟩
        simp only [List.nil_append]
        rw [wrap_up (show pre.length ≤ 281474976710656 by omega)]
        have e : pre ++ l :: r = (pre ++ [l]) ++ r := by simp
        have el : ((pre.length + 1 : Nat) : Int) = (((pre ++ [l]).length : Nat) : Int) := by simp
        have el2 : (pre ++ [l]).length = pre.length + 1 := by simp
        rw [e, el]
        refine (ih r _ _ _ (by omega) (by omega) (by simp; omega) (by omega) s2).trans ?_
        rw [el2]
        simp only [plP, List.append_assoc, List.map_append]
  unfold m_sutureref8_all
  exact bind_eq (loop n P [] [] 0 (by omega) (by simp; omega) (by simp; omega) (by omega) d) rfl

/-! what stands where -/
theorem getM8 (x : Pl) : ((encM8 x).cell 0).int = x.s.kind ∧ ((encM8 x).cell 1).str = x.s.name ∧ ((encM8 x).cell 12).int = (x.th : Int) ∧ ((encM8 x).cell 11).lst = x.ar.map i8 := by
  obtain ⟨⟨kind, name, other, num, ek, en, es, eof, body, els, re, im⟩, th, ar, c⟩ := x
  exact ⟨rfl, rfl, rfl, rfl⟩
def S.at_ : S → Nat × Nat
  | .mk _ _ _ _ _ _ _ _ _ _ re im => (re, im)
theorem atM8 (x : Pl) : (((encM8 x).cell 10).re, ((encM8 x).cell 10).im) = x.s.at_ := by
  obtain ⟨⟨kind, name, other, num, ek, en, es, eof, body, els, re, im⟩, th, ar, c⟩ := x
  rfl
theorem atPl (x : Pl) : (((encPl x).cell 10).re, ((encPl x).cell 10).im) = x.s.at_ := by
  obtain ⟨⟨kind, name, other, num, ek, en, es, eof, body, els, re, im⟩, th, ar, c⟩ := x
  rfl
theorem idx_M8 {X : List Pl} {i : Nat} (h : i < X.length) : idx true [.int .i64, .str, .str, .int .i64, .int .i64, .int .i64, .str, .list, .list, .list, .cplx .f64, .list, .int .i64] (X.map encM8) (i : Int) = some (encM8 X[i]) := by
  have h0 : decide ((0 : Int) ≤ (i : Int)) = true := by simp
  simp only [idx, cond_true, h0, Int.toNat_natCast, List.getElem?_map, List.getElem?_eq_getElem h, Option.map_some]
  obtain ⟨⟨kind, name, other, num, ek, en, es, eof, body, els, re, im⟩, th, ar, c⟩ := X[i]
  rfl
theorem idx_off {sh : List _} {l : List T} {i : Int} : idx false sh l i = some default := rfl
theorem idx_8 {l : List Nat} {i : Nat} (h : i < l.length) : idx true [.int .i64] (l.map i8) (i : Int) = some (i8 l[i]) := by
  have h0 : decide ((0 : Int) ≤ (i : Int)) = true := by simp
  simp only [idx, cond_true, h0, Int.toNat_natCast, List.getElem?_map, List.getElem?_eq_getElem h, Option.map_some]
  rfl

theorem mem_drop_here {α : Type} {l : List α} {i : Nat} (h : i < l.length) (b : α) : b ∈ l.drop i ↔ b = l[i] ∨ b ∈ l.drop (i + 1) := by
  rw [List.drop_eq_getElem_cons h, List.mem_cons]

theorem contains_eq (l : List Nat) (hl : l.length ≤ 100000) (hn : 100000 < n) (b : Nat) : m_slices_Contains___int_int_ n (l.map iN) (b : Int) = some (decide (b ∈ l)) := by
  have loop : ∀ (m i : Nat), i ≤ l.length → l.length - i < m → ∃ x, l_slices_Index___int_int__2 n m (l.map iN, (b : Int), ((l.length : Nat) : Int), (i : Int)) = some x ∧ (match x with
      | .inl v => 0 ≤ v ∧ b ∈ l.drop i
      | .inr _ => ¬ b ∈ l.drop i) := by
    intro m
    induction m with
    | zero => intro i h1 h2; omega
    | succ m ih =>
      intro i h1 h2
      rw [l_slices_Index___int_int__2]
      unfold l_slices_Index___int_int__2_B
      simp only
      by_cases hlt : i < l.length
      · rw [decide_eq_true (show (i : Int) < ((l.length : Nat) : Int) by omega), cond_true, idx_N hlt, Option.bind_some]
        have e : ((iN l[i]).cell 0).int = (l[i] : Int) := rfl
        rw [e]
        by_cases hb : b = l[i]
        · rw [show (((b : Nat) : Int) == ((l[i] : Nat) : Int)) = true by rw [beq_iff_eq]; omega, cond_true]
          exact ⟨_, rfl, by omega, (mem_drop_here hlt b).2 (.inl hb)⟩
        · rw [show (((b : Nat) : Int) == ((l[i] : Nat) : Int)) = false by rw [beq_eq_false_iff_ne]; omega, cond_false, wrap_up (show i ≤ 281474976710656 by omega)]
          obtain ⟨x, hx, hx2⟩ := ih (i + 1) (by omega) (by omega)
          refine ⟨x, hx, ?_⟩
          cases x with
          | inl v => exact ⟨hx2.1, (mem_drop_here hlt b).2 (.inr hx2.2)⟩
          | inr v => exact fun h => ((mem_drop_here hlt b).1 h).elim hb hx2
      · rw [decide_eq_false (show ¬ (i : Int) < ((l.length : Nat) : Int) by omega), cond_false]
        exact ⟨_, rfl, by rw [List.drop_eq_nil_of_le (by omega)]; simp⟩
  unfold m_slices_Contains___int_int_ m_slices_Index___int_int_
  rw [List.length_map]
  obtain ⟨x, hx, hx2⟩ := loop n 0 (by omega) (by omega)
  rw [List.drop_zero] at hx2
  rw [show ((0 : Int)) = ((0 : Nat) : Int) from rfl, hx]
  cases x with
  | inl v => simp only [Option.bind_some, Sum.elim_inl]; rw [decide_eq_true hx2.2, decide_eq_true (show v ≥ ((0 : Nat) : Int) from hx2.1)]
  | inr v => simp only [Option.bind_some, Sum.elim_inr]; rw [decide_eq_false hx2]; rfl

theorem within8 (l : List Nat) (hl : l.length ≤ 100000) (hn : 100000 < n) (b : Nat) (a1 : Int) (a2 a3 : ByteArray) (a4 a5 a6 : Int) (a7 : ByteArray) (a8 a9 a10 : List T) (a11 : Nat × Nat) (a13 : Int) : m_sutureref8_within n ((b + 1 : Nat) : Int) a1 a2 a3 a4 a5 a6 a7 a8 a9 a10 a11 (l.map i8) a13 = some (decide (b ∈ l)) := by
  have loop : ∀ (m i : Nat), i ≤ l.length → l.length - i < m → ∃ x, l_sutureref8_within_2 n m (((b + 1 : Nat) : Int), (i : Int), a1, a2, a3, a4, a5, a6, a7, a8, a9, a10, a11, l.map i8, a13) = some x ∧ (match x with
      | .inl v => v.1 = true ∧ b ∈ l.drop i
      | .inr _ => ¬ b ∈ l.drop i) := by
    intro m
    induction m with
    | zero => intro i h1 h2; omega
    | succ m ih =>
      intro i h1 h2
      rw [l_sutureref8_within_2]
      unfold l_sutureref8_within_2_B
      simp only [List.length_map]
      by_cases hlt : i < l.length
      · rw [decide_eq_true (show (i : Int) < ((l.length : Nat) : Int) by omega), cond_true, idx_8 hlt, Option.bind_some]
        have e : ((i8 l[i]).cell 0).int = ((l[i] + 1 : Nat) : Int) := rfl
        rw [e]
        by_cases hb : b = l[i]
        · rw [show (((l[i] + 1 : Nat) : Int) == ((b + 1 : Nat) : Int)) = true by rw [beq_iff_eq]; omega, cond_true]
          exact ⟨_, rfl, rfl, (mem_drop_here hlt b).2 (.inl hb)⟩
        · rw [show (((l[i] + 1 : Nat) : Int) == ((b + 1 : Nat) : Int)) = false by rw [beq_eq_false_iff_ne]; omega, cond_false, wrap_up (show i ≤ 281474976710656 by omega)]
          obtain ⟨x, hx, hx2⟩ := ih (i + 1) (by omega) (by omega)
          refine ⟨x, hx, ?_⟩
          cases x with
          | inl v => exact ⟨hx2.1, (mem_drop_here hlt b).2 (.inr hx2.2)⟩
          | inr v => exact fun h => ((mem_drop_here hlt b).1 h).elim hb hx2
      · rw [decide_eq_false (show ¬ (i : Int) < ((l.length : Nat) : Int) by omega), cond_false]
        exact ⟨_, rfl, by rw [List.drop_eq_nil_of_le (by omega)]; simp⟩
  unfold m_sutureref8_within
  obtain ⟨x, hx, hx2⟩ := loop n 0 (by omega) (by omega)
  rw [List.drop_zero] at hx2
  rw [show ((0 : Int)) = ((0 : Nat) : Int) from rfl, hx]
  cases x with
  | inl v => simp only [Option.bind_some, Sum.elim_inl]; rw [decide_eq_true hx2.2, hx2.1]
  | inr v => simp only [Option.bind_some, Sum.elim_inr]; rw [decide_eq_false hx2]
end

/-- The first place from one on. -/
def findF (p : Nat → Bool) : Nat → Nat → Option Nat
  | 0, _ => none
  | f + 1, k => if p k then some k else findF p f (k + 1)
theorem findF_none {p : Nat → Bool} : ∀ (f k : Nat), (∀ j, k ≤ j → j < k + f → p j = false) → findF p f k = none
  | 0, k, _ => rfl
  | f + 1, k, h => by
    rw [findF, h k (Nat.le_refl _) (by omega), if_neg (by simp)]
    exact findF_none f (k + 1) (fun j h1 h2 => h j (by omega) (by omega))
theorem findF_some {p : Nat → Bool} : ∀ (f k : Nat) {t : Nat}, findF p f k = some t → k ≤ t ∧ t < k + f
  | 0, k, t, h => by cases h
  | f + 1, k, t, h => by
    rw [findF] at h
    split at h
    · cases h; omega
    · have := findF_some f (k + 1) h; omega

def nmEq (y a : Pl) : Bool := ByteArray.toList y.s.name == ByteArray.toList a.s.name
def lastIn (y a : Pl) : Bool := match y.ar.getLast? with
  | some b => decide (b ∈ a.ar)
  | none => false
/-- Is a place a goto's target, if none ahead of it is? -/
def hit (X : List Pl) (a : Pl) (k : Nat) : Bool := match X[k]? with
  | some y => (y.s.kind == 10) && nmEq y a && (y.th == a.th) && lastIn y a
  | none => false
def tgt (X : List Pl) (i : Nat) : Int := match X[i]? with
  | none => -1
  | some a => if a.s.kind = 9 then (match findF (hit X a) (X.length - (i + 1)) (i + 1) with
    | some t => (t : Int)
    | none => -1) else -1

/-- What is known of the statements in order. -/
structure Ord (X : List Pl) : Prop where
  len : X.length ≤ 6000
  ne : ∀ x ∈ X, x.ar ≠ []
  ar : ∀ x ∈ X, x.ar.length ≤ 100000
  mono : ∀ (i j : Nat) (hi : i < X.length) (hj : j < X.length), i ≤ j → X[i].th ≤ X[j].th

section
variable {n : Nat} (hn : 100000 < n) {X : List Pl} (hX : Ord X)
include hn hX

theorem last_eq {k : Nat} (hlt : k < X.length) : 0 < X[k].ar.length ∧ ∀ a : Pl, lastIn X[k] a = decide (X[k].ar[X[k].ar.length - 1]'(by have := List.length_pos_iff.2 (hX.ne _ (List.getElem_mem hlt)); omega) ∈ a.ar) := by
  have hl0 : 0 < X[k].ar.length := List.length_pos_iff.2 (hX.ne _ (List.getElem_mem hlt))
  refine ⟨hl0, fun a => ?_⟩
  unfold lastIn
  rw [List.getLast?_eq_getElem?, List.getElem?_eq_getElem (by omega)]

theorem target_eq {i : Nat} (hi : i < X.length) : m_jumps_target n (X.map encPl) (i : Int) = some (tgt X i) := by
  have hlen := hX.len
  have loop : ∀ (m k : Nat), i < k → k ≤ X.length → X.length - k < m → ∀ s2 s4 s5 s6 s7 s8 s9 s10 s11 s12, l_jumps_target_5 n m (X.map encPl, (k : Int), s2, X[i].s.name, s4, s5, s6, s7, s8, s9, s10, s11, s12, (X[i].th : Int), X[i].ar.map iN) =
      some (match findF (hit X X[i]) (X.length - k) k with
        | some t => .inl ((t : Int), s2, X[i].s.name, s4, s5, s6, s7, s8, s9, s10, s11, s12, (X[i].th : Int), X[i].ar.map iN)
        | none => .inr (s2, X[i].s.name, s4, s5, s6, s7, s8, s9, s10, s11, s12, (X[i].th : Int), X[i].ar.map iN)) := by
    intro m
    induction m with
    | zero => intro k h0 h1 h2; omega
    | succ m ih =>
      intro k h0 h1 h2 s2 s4 s5 s6 s7 s8 s9 s10 s11 s12
      rw [l_jumps_target_5]
      unfold l_jumps_target_5_B
      simp only [List.length_map]
      by_cases hlt : k < X.length
      · have hd : decide ((k : Int) < ((X.length : Nat) : Int)) = true := decide_eq_true (by omega)
        simp only [hd, idx_Pl hlt, Option.bind_some, cond_true]
        obtain ⟨g0, g1, g2, g3⟩ := getPl X[k]
        simp only [g0, g1, g2, g3, List.length_map]
        by_cases hth : X[k].th = X[i].th
        · rw [show (((X[k].th : Nat) : Int) == ((X[i].th : Nat) : Int)) = true by rw [beq_iff_eq]; omega, cond_true]
          obtain ⟨hl0, hla⟩ := last_eq hn hX hlt
          have hal' := hX.ar _ (List.getElem_mem hlt)
          rw [wrap_id (show -9223372036854775808 ≤ ((X[k].ar.length : Nat) : Int) - 1 by omega) (by omega), show ((X[k].ar.length : Nat) : Int) - 1 = ((X[k].ar.length - 1 : Nat) : Int) by omega]
          rw [wrap_up (show k ≤ 281474976710656 by omega)]
          have next := ih (k + 1) (by omega) (by omega) (by omega) s2 s4 s5 s6 s7 s8 s9 s10 s11 s12
          have hhit : hit X X[i] k = ((bif ((X[k].s.kind : Int) == 10) then (ByteArray.toList X[k].s.name == ByteArray.toList X[i].s.name) else false) && lastIn X[k] X[i]) := by
            unfold hit nmEq
            rw [List.getElem?_eq_getElem hlt]
            simp only
            rw [show (X[k].th == X[i].th) = true from beq_iff_eq.2 hth, Bool.and_true]
            cases ((X[k].s.kind : Int) == 10) <;> rfl
          obtain ⟨f, hf⟩ : ∃ f, X.length - k = f + 1 := ⟨X.length - k - 1, by omega⟩
          rw [hf, findF, hhit]
          rw [show X.length - (k + 1) = f by omega] at next
          cases hk : (bif ((X[k].s.kind : Int) == 10) then (ByteArray.toList X[k].s.name == ByteArray.toList X[i].s.name) else false) with
          | false =>
            rw [idx_off]
            simp only [cond_false, Option.bind_some, Bool.false_and, Bool.false_eq_true, if_false]
            exact next
          | true =>
            rw [idx_N (show X[k].ar.length - 1 < X[k].ar.length by omega)]
            simp only [Option.bind_some, cond_true]
            have e4 : ((iN (X[k].ar[X[k].ar.length - 1]'(by omega))).cell 0).int = ((X[k].ar[X[k].ar.length - 1]'(by omega) : Nat) : Int) := rfl
            rw [e4, contains_eq X[i].ar (hX.ar _ (List.getElem_mem hi)) hn, Option.bind_some, ← hla X[i], Bool.true_and]
            cases lastIn X[k] X[i] with
            | true => simp only [cond_true, if_true]
            | false => simp only [cond_false, Bool.false_eq_true, if_false]; exact next
        · rw [show (((X[k].th : Nat) : Int) == ((X[i].th : Nat) : Int)) = false by rw [beq_eq_false_iff_ne]; omega, cond_false]
          rw [findF_none _ _ (fun j h3 h4 => ?_)]
          have hj : j < X.length := by omega
          unfold hit
          rw [List.getElem?_eq_getElem hj]
          simp only
          have m1 := hX.mono i k hi hlt (by omega)
          have m2 := hX.mono k j hlt hj h3
          rw [show (X[j].th == X[i].th) = false by rw [beq_eq_false_iff_ne]; omega, Bool.and_false, Bool.false_and]
      · rw [decide_eq_false (show ¬ (k : Int) < ((X.length : Nat) : Int) by omega), idx_off]
        simp only [Option.bind_some, cond_false]
        rw [show X.length - k = 0 by omega]
        rfl
  unfold m_jumps_target tgt
  rw [List.length_map, List.getElem?_eq_getElem hi, decide_eq_false (show ¬ (i : Int) < 0 by omega), decide_eq_false (show ¬ (i : Int) ≥ ((X.length : Nat) : Int) by omega)]
  simp only [cond_false, Bool.not_false]
  rw [idx_Pl hi]
  simp only [Option.bind_some]
  obtain ⟨g0, g1, g2, g3⟩ := getPl X[i]
  simp only [g0, g1, g2, g3]
  by_cases h9 : X[i].s.kind = 9
  · rw [show ((X[i].s.kind : Int) != 9) = false by rw [h9]; rfl, cond_false, if_pos h9, wrap_up (show i ≤ 281474976710656 by omega), loop n (i + 1) (by omega) (by omega) (by omega), Option.bind_some]
    cases findF (hit X X[i]) (X.length - (i + 1)) (i + 1) with
    | some t => rfl
    | none => rfl
  · rw [show ((X[i].s.kind : Int) != 9) = true by simp [bne, h9], cond_true, if_neg h9]
omit hn hX in
theorem target_out {j : Int} (h : j < 0 ∨ (X.length : Int) ≤ j) : m_jumps_target n (X.map encPl) j = some (-1) := by
  unfold m_jumps_target
  rw [List.length_map]
  have e : (bif (decide ((j : Int) < 0)) then true else (decide ((j : Int) ≥ ((X.length : Nat) : Int)))) = true := by
    rcases h with h | h
    · rw [decide_eq_true h]; rfl
    · rw [decide_eq_true (show j ≥ ((X.length : Nat) : Int) from h)]; cases decide (j < 0) <;> rfl
  rw [e]
  rfl

theorem target8_eq {i : Nat} (hi : i < X.length) : m_sutureref8_target n (X.map encM8) (i : Int) = some (tgt X i) := by
  have hlen := hX.len
  have loop : ∀ (m k : Nat), i < k → k ≤ X.length → X.length - k < m → l_sutureref8_target_4 n m (X.map encM8, (i : Int), (k : Int)) =
      some (match findF (hit X X[i]) (X.length - k) k with
        | some t => .inl (t : Int)
        | none => .inr ()) := by
    intro m
    induction m with
    | zero => intro k h0 h1 h2; omega
    | succ m ih =>
      intro k h0 h1 h2
      rw [l_sutureref8_target_4]
      unfold l_sutureref8_target_4_B
      simp only [List.length_map]
      by_cases hlt : k < X.length
      · have hd : decide ((k : Int) < ((X.length : Nat) : Int)) = true := decide_eq_true (by omega)
        simp only [hd, idx_M8 hlt, Option.bind_some, cond_true]
        obtain ⟨g0, g1, g2, g3⟩ := getM8 X[k]
        obtain ⟨a0, a1, a2, a3⟩ := getM8 X[i]
        simp only [g0, g1, g2, g3, List.length_map]
        obtain ⟨hl0, hla⟩ := last_eq hn hX hlt
        have hal' := hX.ar _ (List.getElem_mem hlt)
        rw [wrap_id (show -9223372036854775808 ≤ ((X[k].ar.length : Nat) : Int) - 1 by omega) (by omega), show ((X[k].ar.length : Nat) : Int) - 1 = ((X[k].ar.length - 1 : Nat) : Int) by omega]
        rw [wrap_up (show k ≤ 281474976710656 by omega)]
        have next := ih (k + 1) (by omega) (by omega) (by omega)
        obtain ⟨f, hf⟩ : ∃ f, X.length - k = f + 1 := ⟨X.length - k - 1, by omega⟩
        have hhit : hit X X[i] k = ((X[k].s.kind == 10) && nmEq X[k] X[i] && (X[k].th == X[i].th) && lastIn X[k] X[i]) := by
          unfold hit
          rw [List.getElem?_eq_getElem hlt]
        rw [hf, findF, hhit]
        rw [show X.length - (k + 1) = f by omega] at next
        cases h10 : ((X[k].s.kind : Int) == 10) with
        | false =>
          simp only [idx_off, Option.bind_some, cond_false, Bool.false_and, Bool.false_eq_true, if_false]
          exact next
        | true =>
          simp only [cond_true]
          rw [idx_M8 hi]
          simp only [Option.bind_some, a1]
          have hnm : (ByteArray.toList X[k].s.name == ByteArray.toList X[i].s.name) = nmEq X[k] X[i] := rfl
          rw [hnm]
          cases nmEq X[k] X[i] with
          | false =>
            simp only [idx_off, Option.bind_some, cond_false, Bool.and_false, Bool.false_and, Bool.false_eq_true, if_false]
            exact next
          | true =>
            simp only [cond_true]
            rw [idx_M8 hi]
            simp only [Option.bind_some, a2]
            have hth : (((X[k].th : Nat) : Int) == ((X[i].th : Nat) : Int)) = (X[k].th == X[i].th) := by
              by_cases h : X[k].th = X[i].th
              · rw [beq_iff_eq.2 h, beq_iff_eq]; omega
              · rw [beq_eq_false_iff_ne.2 h, beq_eq_false_iff_ne]; omega
            rw [hth]
            cases (X[k].th == X[i].th) with
            | false =>
              simp only [idx_off, Option.bind_some, cond_false, Bool.and_false, Bool.false_and, Bool.false_eq_true, if_false]
              exact next
            | true =>
              simp only [cond_true]
              rw [idx_8 (show X[k].ar.length - 1 < X[k].ar.length by omega), idx_M8 hi]
              simp only [Option.bind_some, a3]
              have e4 : ((i8 (X[k].ar[X[k].ar.length - 1]'(by omega))).cell 0).int = (((X[k].ar[X[k].ar.length - 1]'(by omega)) + 1 : Nat) : Int) := rfl
              rw [e4, within8 X[i].ar (hX.ar _ (List.getElem_mem hi)) hn, Option.bind_some, ← hla X[i]]
              simp only [Bool.true_and]
              cases lastIn X[k] X[i] with
              | true => simp only [cond_true, if_true]
              | false => simp only [cond_false, Bool.false_eq_true, if_false]; exact next
      · rw [decide_eq_false (show ¬ (k : Int) < ((X.length : Nat) : Int) by omega), cond_false]
        rw [show X.length - k = 0 by omega]
        rfl
  unfold m_sutureref8_target tgt
  rw [List.length_map, List.getElem?_eq_getElem hi, decide_eq_false (show ¬ (i : Int) < 0 by omega), decide_eq_false (show ¬ (i : Int) ≥ ((X.length : Nat) : Int) by omega)]
  simp only [cond_false, Bool.not_false]
  rw [idx_M8 hi]
  simp only [Option.bind_some]
  obtain ⟨g0, g1, g2, g3⟩ := getM8 X[i]
  simp only [g0]
  by_cases h9 : X[i].s.kind = 9
  · rw [show ((X[i].s.kind : Int) != 9) = false by rw [h9]; rfl, cond_false, if_pos h9, wrap_up (show i ≤ 281474976710656 by omega), loop n (i + 1) (by omega) (by omega) (by omega), Option.bind_some]
    cases findF (hit X X[i]) (X.length - (i + 1)) (i + 1) with
    | some t => rfl
    | none => rfl
  · rw [show ((X[i].s.kind : Int) != 9) = true by simp [bne, h9], cond_true, if_neg h9]
omit hn hX in
theorem target8_out {j : Int} (h : j < 0 ∨ (X.length : Int) ≤ j) : m_sutureref8_target n (X.map encM8) j = some (-1) := by
  unfold m_sutureref8_target
  rw [List.length_map]
  have e : (bif (decide ((j : Int) < 0)) then true else (decide ((j : Int) ≥ ((X.length : Nat) : Int)))) = true := by
    rcases h with h | h
    · rw [decide_eq_true h]; rfl
    · rw [decide_eq_true (show j ≥ ((X.length : Nat) : Int) from h)]; cases decide (j < 0) <;> rfl
  rw [e]
  rfl
end
end Go.Proofs.Ytgpokdaacbjimab.W
