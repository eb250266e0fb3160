/- Chapter 9, plain: the document's reading comes to something, whatever the text: words, names, numbers, expressions. -/
import Derived.Test.YtgpokdaacbjimabJA
import Derived.Test.YtgpokdaacbjimabEngFl
namespace Go.Proofs.Ytgpokdaacbjimab.W
open Go Go.Eng
set_option linter.unusedVariables false
set_option linter.unusedSimpArgs false
set_option linter.unusedSectionVars false

/-- It comes to something of which Q holds. -/
def Comes {R : Type} (m : Option R) (Q : R → Prop) : Prop := ∃ r, m = some r ∧ Q r
theorem comes_some {R : Type} {r : R} {Q : R → Prop} (h : Q r) : Comes (some r) Q := ⟨r, rfl, h⟩
theorem comes_bind {A R : Type} {m : Option A} {f : A → Option R} {P : A → Prop} {Q : R → Prop} (h : Comes m P) (k : ∀ a, P a → Comes (f a) Q) : Comes (Option.bind m f) Q := by
  obtain ⟨a, rfl, ha⟩ := h
  exact k a ha
theorem comes_cond {R : Type} {c : Bool} {a b : Option R} {Q : R → Prop} (h1 : c = true → Comes a Q) (h2 : c = false → Comes b Q) : Comes (bif c then a else b) Q := by
  cases c
  · exact h2 rfl
  · exact h1 rfl
theorem comes_must {R : Type} {c φ : Bool} {r : Option R} {Q : R → Prop} (h : φ = true) (k : Comes r Q) : Comes (must c φ r) Q := by rw [must_eq h]; exact k
theorem comes_mono {R : Type} {m : Option R} {P Q : R → Prop} (h : Comes m P) (k : ∀ a, P a → Q a) : Comes m Q := by
  obtain ⟨a, h1, h2⟩ := h
  exact ⟨a, h1, k a h2⟩

theorem idx1_in {v : List T} {i : Int} (h0 : 0 ≤ i) (h : i < (v.length : Nat)) (hv : ∀ x ∈ v, ∃ s, x = .sc (.string s)) : Comes (idx1 true .str v i) fun _ => True := by
  have hlt : i.toNat < v.length := by omega
  unfold idx1
  simp only [cond_true, decide_eq_true h0, List.getElem?_eq_getElem hlt]
  obtain ⟨s, hs⟩ := hv _ (List.getElem_mem hlt)
  rw [hs]
  exact ⟨_, rfl, trivial⟩

theorem keyword_c (n : Nat) (hn : 100 < n) (a : ByteArray) : Comes (m_sutureref1_Keyword n a) fun _ => True := by
  have loop : ∀ (m : Nat) (i : Int), 0 ≤ i → i ≤ 17 → 17 - i < m → ∀ s1 s2 s3 s4 s5 s6 s7 s8 s9 s10 s11 s12 s13 s14 s15 s16 s17, Comes (l_sutureref1_Keyword_2 n m (a, s1, s2, s3, s4, s5, s6, s7, s8, s9, s10, s11, s12, s13, s14, s15, s16, s17, i)) fun _ => True := by
    intro m
    induction m with
    | zero => intro i h0 h1 h2; omega
    | succ m ih =>
      intro i h0 h1 h2 s1 s2 s3 s4 s5 s6 s7 s8 s9 s10 s11 s12 s13 s14 s15 s16 s17
      rw [l_sutureref1_Keyword_2]
      unfold l_sutureref1_Keyword_2_B
      simp only
      refine comes_cond (fun hc => ?_) (fun _ => comes_some trivial)
      have hc := of_decide_eq_true hc
      refine comes_bind (idx1_in h0 (by simp only [List.length_cons, List.length_nil]; omega) (by
        intro x hx
        simp only [List.mem_cons, List.not_mem_nil, or_false] at hx
        rcases hx with rfl | rfl | rfl | rfl | rfl | rfl | rfl | rfl | rfl | rfl | rfl | rfl | rfl | rfl | rfl | rfl | rfl <;> exact ⟨_, rfl⟩)) fun y _ => ?_
      refine comes_cond (fun _ => comes_some trivial) (fun _ => ?_)
      rw [wrap_id (by omega) (by omega)]
      exact ih (i + 1) (by omega) (by omega) (by omega) _ _ _ _ _ _ _ _ _ _ _ _ _ _ _ _ _
  unfold m_sutureref1_Keyword
  refine comes_bind (loop n 0 (by omega) (by omega) (by omega) _ _ _ _ _ _ _ _ _ _ _ _ _ _ _ _ _) fun x _ => ?_
  cases x with
  | inl p => exact comes_some trivial
  | inr p => exact comes_some trivial

theorem declKind_c (n : Nat) (hn : 100 < n) (a : ByteArray) : Comes (m_sutureref1_declKind n a) fun _ => True := by
  have loop : ∀ (m : Nat) (i : Int), 0 ≤ i → i ≤ 6 → 6 - i < m → ∀ s1 s2 s3 s4 s5 s6, Comes (l_sutureref1_declKind_2 n m (a, s1, s2, s3, s4, s5, s6, i)) fun _ => True := by
    intro m
    induction m with
    | zero => intro i h0 h1 h2; omega
    | succ m ih =>
      intro i h0 h1 h2 s1 s2 s3 s4 s5 s6
      rw [l_sutureref1_declKind_2]
      unfold l_sutureref1_declKind_2_B
      simp only
      refine comes_cond (fun hc => ?_) (fun _ => comes_some trivial)
      have hc := of_decide_eq_true hc
      refine comes_bind (idx1_in h0 (by simp only [List.length_cons, List.length_nil]; omega) (by
        intro x hx
        simp only [List.mem_cons, List.not_mem_nil, or_false] at hx
        rcases hx with rfl | rfl | rfl | rfl | rfl | rfl <;> exact ⟨_, rfl⟩)) fun y _ => ?_
      refine comes_cond (fun _ => comes_some trivial) (fun _ => ?_)
      rw [wrap_id (show -9223372036854775808 ≤ i + 1 by omega) (by omega)]
      exact ih (i + 1) (by omega) (by omega) (by omega) _ _ _ _ _ _
  unfold m_sutureref1_declKind
  refine comes_bind (loop n 0 (by omega) (by omega) (by omega) _ _ _ _ _ _) fun x _ => ?_
  cases x with
  | inl p => exact comes_some trivial
  | inr p => exact comes_some trivial

/-- A place that is equal to itself. -/
def gdP (x : Nat × Nat) : Prop := cplxEq .f64 x.1 x.2 x.1 x.2 = true
theorem gd_F {a b : Int} (ha : a.natAbs < 2 ^ 53) (hb : b.natAbs < 2 ^ 53) : gdP (FloatKind.nearest .f64 a, FloatKind.nearest .f64 b) := by
  have e : ∀ c : Int, c.natAbs < 2 ^ 53 → ((FloatKind.format .f64).order (Fl.F c) (Fl.F c) == some .eq) = true := by
    intro c hc
    rw [Fl.order_F c c hc hc]
    simp
  have h1 := e a ha
  have h2 := e b hb
  unfold gdP cplxEq
  simp only [Fl.F] at h1 h2
  simp only [h1, h2, Bool.and_self]
theorem place_c {n : Nat} {s : ByteArray} (hs : (L s).length ≤ 281474976710656) (hn : (L s).length < n) (q : Int) : Comes (m_sutureref1_Place n s q) fun r => gdP r := by
  have loop : ∀ (m : Nat) (k : Int) (i : Nat), k ≤ ((L s).length : Int) → i ≤ (L s).length → (L s).length - i < m → ∀ s2 s3 : Int, 0 ≤ s2 → s2 ≤ i + 1 → 0 ≤ s3 → s3 ≤ i + 1 → Comes (l_sutureref1_Spot_5 n m (s, k, s2, s3, (i : Int))) fun r => 0 ≤ r.1 ∧ r.1 ≤ 281474976710658 ∧ 0 ≤ r.2 ∧ r.2 ≤ 281474976710658 := by
    intro m
    induction m with
    | zero => intro k i h0 h1 h2; omega
    | succ m ih =>
      intro k i h0 h1 h2 s2 s3 a0 a1 b0 b1
      rw [l_sutureref1_Spot_5]
      unfold l_sutureref1_Spot_5_B
      simp only
      refine comes_cond (fun hc => ?_) (fun _ => comes_some ⟨a0, by simp only; omega, b0, by simp only; omega⟩)
      have hc := of_decide_eq_true hc
      rw [bidx_at (show i < (L s).length by omega)]
      simp only [Option.bind_some]
      rw [wrap_up (show i ≤ 281474976710656 by omega), wrap_id (show -9223372036854775808 ≤ s2 + 1 by omega) (by omega), wrap_id (show -9223372036854775808 ≤ s3 + 1 by omega) (by omega)]
      exact comes_cond (fun _ => ih k (i + 1) h0 (by omega) (by omega) _ _ (by omega) (by omega) (by omega) (by omega)) (fun _ => ih k (i + 1) h0 (by omega) (by omega) _ _ (by omega) (by omega) (by omega) (by omega))
  unfold m_sutureref1_Place m_sutureref1_Spot m_sutureref1_Within
  refine comes_bind (P := fun r => 0 ≤ r.1 ∧ r.1 ≤ 281474976710658 ∧ 0 ≤ r.2 ∧ r.2 ≤ 281474976710658) ?_ fun x hx => comes_some (gd_F (by obtain ⟨h1, h2, _⟩ := hx; have : (2 : Nat) ^ 53 = 9007199254740992 := rfl; omega) (by obtain ⟨_, _, h1, h2⟩ := hx; have : (2 : Nat) ^ 53 = 9007199254740992 := rfl; omega))
  simp only [Option.bind_some]
  refine comes_bind (loop n _ 0 ?_ (by omega) (by omega) 1 1 (by omega) (by omega) (by omega) (by omega)) fun x hx => comes_some hx
  rw [size_L]
  split <;> split <;> omega

/-! the tokens -/

/-- Tokens: the last one, and no other, is of kind 4. -/
structure Toks (A : List T) (N : Int) : Prop where
  isN : (A.length : Int) = N + 1
  small : N ≤ 6000
  pos : 0 ≤ N
  at_ : ∀ (i : Nat), i < A.length → ∃ t : Tok, A[i]? = some (encR t) ∧ (t.kind ≠ 4 → (i : Int) < N)

section
variable {A : List T} {N : Int} (hA : Toks A N)
include hA

theorem tok_c (c : Bool) {i : Int} (h0 : 0 ≤ i) (h1 : i ≤ N) : Comes (idx c [.int .i64, .str, .int .i64, .int .i64] A i) fun y => c = true → ((y.cell 0).int ≠ 4 → i < N) := by
  cases c with
  | false => exact ⟨_, rfl, fun h => by cases h⟩
  | true =>
    obtain ⟨t, ht, hk⟩ := hA.at_ i.toNat (by have := hA.isN; omega)
    refine ⟨encR t, ?_, fun _ h => ?_⟩
    · simp only [idx, cond_true, decide_eq_true h0, ht]
      rfl
    · have := hk h
      omega
end

/-- A reader's state behind a step: what was read stays read; what failed stays so. -/
structure Stp (A : List T) (N at_ : Int) (f : Bool) (q : List T × Int × Bool × Int) : Prop where
  same : q.1 = A
  le : at_ ≤ q.2.1
  top : q.2.1 ≤ N
  bad0 : 0 ≤ q.2.2.2
  bad1 : q.2.2.2 ≤ N
  fails : f = true → q.2.2.1 = true

section
variable {A : List T} {N : Int} (hA : Toks A N) {n : Nat} (hn : 100 < n)
include hA

theorem failAt_c {i b q : Int} (f : Bool) (h0 : 0 ≤ i) (h1 : i ≤ N) (b0 : 0 ≤ b) (b1 : b ≤ N) (q0 : 0 ≤ q) (q1 : q ≤ N) : Comes (m___sutureref1_Reader__failAt n q A i f b) fun r => Stp A N i f r ∧ r.2.2.1 = true ∧ r.2.1 = i := by
  unfold m___sutureref1_Reader__failAt
  cases f with
  | true => exact ⟨_, rfl, ⟨rfl, Int.le_refl _, h1, b0, b1, fun _ => rfl⟩, rfl, rfl⟩
  | false => exact ⟨_, rfl, ⟨rfl, Int.le_refl _, h1, q0, q1, fun h => by cases h⟩, rfl, rfl⟩

theorem fail_c {i b : Int} (f : Bool) (h0 : 0 ≤ i) (h1 : i ≤ N) (b0 : 0 ≤ b) (b1 : b ≤ N) : Comes (m___sutureref1_Reader__fail n A i f b) fun r => Stp A N i f r ∧ r.2.2.1 = true ∧ r.2.1 = i := by
  unfold m___sutureref1_Reader__fail
  refine comes_bind (failAt_c hA f h0 h1 b0 b1 h0 h1) fun r hr => ?_
  obtain ⟨r1, r2, r3, r4⟩ := r
  exact comes_some hr

theorem word_c {i b : Int} (s : ByteArray) (f : Bool) (h0 : 0 ≤ i) (h1 : i ≤ N) : Comes (m___sutureref1_Reader__word n s A i f b) fun r => r.2 = (A, i, f, b) ∧ (r.1 = true → f = false ∧ i < N) := by
  unfold m___sutureref1_Reader__word
  refine comes_bind (tok_c hA _ h0 h1) fun y hy => ?_
  refine comes_bind (tok_c hA _ h0 h1) fun y1 hy1 => ?_
  refine ⟨_, rfl, rfl, ?_⟩
  intro h
  simp only at h
  cases f with
  | true => simp at h
  | false =>
    refine ⟨rfl, ?_⟩
    simp only [Bool.not_false, cond_true] at h
    cases hk : (((y.cell 0).int : Int) == 1) with
    | false => rw [hk] at h; simp at h
    | true =>
      have hk := beq_iff_eq.1 hk
      exact hy rfl (by omega)

theorem sign_c {i b : Int} (s : ByteArray) (f : Bool) (h0 : 0 ≤ i) (h1 : i ≤ N) : Comes (m___sutureref1_Reader__sign n s A i f b) fun r => r.2 = (A, i, f, b) ∧ (r.1 = true → f = false ∧ i < N) := by
  unfold m___sutureref1_Reader__sign
  refine comes_bind (tok_c hA _ h0 h1) fun y hy => ?_
  refine comes_bind (tok_c hA _ h0 h1) fun y1 hy1 => ?_
  refine ⟨_, rfl, rfl, ?_⟩
  intro h
  simp only at h
  cases f with
  | true => simp at h
  | false =>
    refine ⟨rfl, ?_⟩
    simp only [Bool.not_false, cond_true] at h
    cases hk : (((y.cell 0).int : Int) == 3) with
    | false => rw [hk] at h; simp at h
    | true =>
      have hk := beq_iff_eq.1 hk
      exact hy rfl (by omega)

/-- A step that reads something, or fails. -/
def Stp1 (A : List T) (N at_ : Int) (f : Bool) (q : List T × Int × Bool × Int) : Prop := Stp A N at_ f q ∧ (q.2.2.1 = false → at_ < q.2.1)

theorem must_c {i b : Int} (s : ByteArray) (f : Bool) (h0 : 0 ≤ i) (h1 : i ≤ N) (b0 : 0 ≤ b) (b1 : b ≤ N) : Comes (m___sutureref1_Reader__must n s A i f b) fun r => Stp1 A N i f r := by
  unfold m___sutureref1_Reader__must
  refine comes_bind (sign_c hA s f h0 h1) fun r hr => ?_
  obtain ⟨q, r2⟩ := r
  obtain ⟨rfl, hq⟩ := hr
  simp only at hq ⊢
  refine comes_cond (fun hc => ?_) (fun hc => ?_)
  · refine comes_bind (fail_c hA f h0 h1 b0 b1) fun r hr => ?_
    obtain ⟨r1, r2, r3, r4⟩ := r
    exact comes_some ⟨hr.1, fun h => by rw [hr.2.1] at h; cases h⟩
  · have hs := hA.small
    obtain ⟨rfl, hlt⟩ := hq (by simpa using hc)
    rw [wrap_id (by omega) (by omega)]
    exact comes_some ⟨⟨rfl, by simp only; omega, by simp only; omega, b0, b1, fun h => by cases h⟩, fun _ => by simp only; omega⟩

include hn
theorem name_c {i b : Int} (f : Bool) (h0 : 0 ≤ i) (h1 : i ≤ N) (b0 : 0 ≤ b) (b1 : b ≤ N) : Comes (m___sutureref1_Reader__name n A i f b) fun r => Stp1 A N i f r.2 := by
  unfold m___sutureref1_Reader__name
  refine comes_bind (tok_c hA _ h0 h1) fun y hy => ?_
  refine comes_bind (tok_c hA _ h0 h1) fun y1 hy1 => ?_
  refine comes_bind (P := fun _ => True) (comes_cond (fun _ => keyword_c n hn _) (fun _ => comes_some trivial)) fun r2 _ => ?_
  refine comes_cond (fun hc => ?_) (fun hc => ?_)
  · refine comes_bind (fail_c hA f h0 h1 b0 b1) fun r hr => ?_
    obtain ⟨r1, r2, r3, r4⟩ := r
    exact comes_some ⟨hr.1, fun h => by rw [hr.2.1] at h; cases h⟩
  · have hs := hA.small
    cases f with
    | true => simp at hc
    | false =>
      simp only [cond_false] at hc
      cases hk : (((y.cell 0).int : Int) != 1) with
      | true => rw [hk] at hc; simp at hc
      | false =>
        have hk : (y.cell 0).int = 1 := by simpa using hk
        have hlt := hy rfl (by omega)
        rw [wrap_id (show -9223372036854775808 ≤ i + 1 by omega) (by omega), wrap_id (show -9223372036854775808 ≤ i + 1 - 1 by omega) (by omega)]
        refine comes_bind (tok_c hA _ (by omega) (by omega)) fun y4 _ => ?_
        exact comes_some ⟨⟨rfl, by simp only; omega, by simp only; omega, b0, b1, fun h => by cases h⟩, fun _ => by simp only; omega⟩

theorem number_c {i b : Int} (k : Int) (f : Bool) (h0 : 0 ≤ i) (h1 : i ≤ N) (b0 : 0 ≤ b) (b1 : b ≤ N) : Comes (m___sutureref1_Reader__number n k A i f b) fun r => Stp1 A N i f r.2 := by
  unfold m___sutureref1_Reader__number
  refine comes_bind (tok_c hA _ h0 h1) fun y hy => ?_
  refine comes_bind (tok_c hA _ h0 h1) fun y1 hy1 => ?_
  refine comes_cond (fun hc => ?_) (fun hc => ?_)
  · refine comes_bind (fail_c hA f h0 h1 b0 b1) fun r hr => ?_
    obtain ⟨r1, r2, r3, r4⟩ := r
    exact comes_some ⟨hr.1, fun h => by rw [hr.2.1] at h; cases h⟩
  · have hs := hA.small
    cases f with
    | true => simp at hc
    | false =>
      simp only [cond_false] at hc
      cases hk : (((y.cell 0).int : Int) != 2) with
      | true => rw [hk] at hc; simp at hc
      | false =>
        have hk : (y.cell 0).int = 2 := by simpa using hk
        have hlt := hy rfl (by omega)
        rw [wrap_id (show -9223372036854775808 ≤ i + 1 by omega) (by omega), wrap_id (show -9223372036854775808 ≤ i + 1 - 1 by omega) (by omega)]
        refine comes_bind (tok_c hA _ (by omega) (by omega)) fun y4 _ => ?_
        exact comes_some ⟨⟨rfl, by simp only; omega, by simp only; omega, b0, b1, fun h => by cases h⟩, fun _ => by simp only; omega⟩
end
end Go.Proofs.Ytgpokdaacbjimab.W
