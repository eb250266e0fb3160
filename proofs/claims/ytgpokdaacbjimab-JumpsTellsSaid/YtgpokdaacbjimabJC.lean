/- Chapter 9, plain: the document's reading comes to something: expressions. -/
import Derived.Test.YtgpokdaacbjimabJB
namespace Go.Proofs.Ytgpokdaacbjimab.W
open Go Go.Eng
set_option linter.unusedVariables false
set_option linter.unusedSimpArgs false
set_option linter.unusedSectionVars false

theorem Stp.trans {A : List T} {N i : Int} {f : Bool} {q r : List T × Int × Bool × Int} (h : Stp A N i f q) (k : Stp A N q.2.1 q.2.2.1 r) : Stp A N i f r :=
  ⟨k.same, Int.le_trans h.le k.le, k.top, k.bad0, k.bad1, fun hf => k.fails (h.fails hf)⟩
/-- A step, then another: if one of them reads something, both do. -/
theorem Stp1.left {A : List T} {N i : Int} {f : Bool} {q r : List T × Int × Bool × Int} (h : Stp1 A N i f q) (k : Stp A N q.2.1 q.2.2.1 r) : Stp1 A N i f r := by
  refine ⟨h.1.trans k, fun hr => ?_⟩
  have hq : q.2.2.1 = false := by
    cases hq : q.2.2.1 with
    | false => rfl
    | true => rw [k.fails hq] at hr; cases hr
  have := h.2 hq
  have := k.le
  omega
theorem Stp1.right {A : List T} {N i : Int} {f : Bool} {q r : List T × Int × Bool × Int} (h : Stp A N i f q) (k : Stp1 A N q.2.1 q.2.2.1 r) : Stp1 A N i f r := by
  refine ⟨h.trans k.1, fun hr => ?_⟩
  have := k.2 hr
  have := h.le
  omega
/-- One token on, by hand. -/
theorem Stp1.up {A : List T} {N i b : Int} {r : List T × Int × Bool × Int} (hi : i < N) (k : Stp A N (i + 1) false r) : Stp1 A N i false r :=
  ⟨⟨k.same, by have := k.le; omega, k.top, k.bad0, k.bad1, fun h => by cases h⟩, fun _ => by have := k.le; omega⟩
theorem Stp.refl {A : List T} {N i b : Int} {f : Bool} (h1 : i ≤ N) (b0 : 0 ≤ b) (b1 : b ≤ N) : Stp A N i f (A, i, f, b) := ⟨rfl, Int.le_refl _, h1, b0, b1, id⟩

abbrev Rd (A : List T) (N : Int) (g : Int → List T → Int → Bool → Int → Option (Int × Int × ByteArray × (List T) × (List T) × Int × Bool × Int)) (deep : Int) : Prop :=
  ∀ (i : Int) (f : Bool) (b : Int), 0 ≤ i → i ≤ N → 0 ≤ b → b ≤ N → Comes (g deep A i f b) fun r => Stp1 A N i f r.2.2.2.2

section
variable {A : List T} {N : Int} (hA : Toks A N) {n : Nat} (hn : 6002 < n)
include hA hn

theorem factor_c {c : B___sutureref1_Reader__expr} {deep : Int} (d0 : 0 ≤ deep) (d1 : deep ≤ 8) (hf : deep < 8 → Rd A N c.__sutureref1_Reader__factor (deep + 1)) (he : deep < 8 → Rd A N c.__sutureref1_Reader__expr (deep + 1)) : Rd A N (f___sutureref1_Reader__factor c n) deep := by
  intro i f b h0 h1 b0 b1
  have hs := hA.small
  unfold f___sutureref1_Reader__factor
  cases f with
  | true =>
    simp only [cond_true]
    exact comes_some ⟨Stp.refl h1 b0 b1, fun h => by cases h⟩
  | false =>
    simp only [cond_false]
    refine comes_bind (tok_c hA _ h0 h1) fun y hy => ?_
    have hy := hy rfl
    refine comes_cond (fun hk => ?_) (fun _ => ?_)
    · have hk := beq_iff_eq.1 hk
      have hlt := hy (by omega)
      rw [wrap_id (by omega) (by omega)]
      exact comes_some (Stp1.up (b := b) hlt (Stp.refl (by omega) b0 b1))
    · refine comes_bind (P := fun _ => True) (comes_cond (fun _ => keyword_c n (by omega) _) (fun _ => comes_some trivial)) fun r1 _ => ?_
      refine comes_cond (fun hk => ?_) (fun _ => ?_)
      · cases hk1 : (((y.cell 0).int : Int) == 1) with
        | false => rw [hk1] at hk; simp at hk
        | true =>
          have hk := beq_iff_eq.1 hk1
          have hlt := hy (by omega)
          rw [wrap_id (by omega) (by omega)]
          exact comes_some (Stp1.up (b := b) hlt (Stp.refl (by omega) b0 b1))
      · refine comes_bind (sign_c hA (b := b) _ false h0 h1) fun r2 hr2 => ?_
        obtain ⟨q2, w2⟩ := r2
        obtain ⟨rfl, hq2⟩ := hr2
        simp only at hq2 ⊢
        refine comes_cond (fun hk => ?_) (fun _ => ?_)
        · cases q2 with
          | false => simp at hk
          | true =>
            have hd := of_decide_eq_true (by simpa using hk)
            obtain ⟨_, hlt⟩ := hq2 rfl
            rw [wrap_id (show -9223372036854775808 ≤ deep + 1 by omega) (by omega), wrap_id (show -9223372036854775808 ≤ i + 1 by omega) (by omega)]
            refine comes_bind (hf hd (i + 1) false b (by omega) (by omega) b0 b1) fun r hr => ?_
            obtain ⟨r1, r2, r3, r4, r5⟩ := r
            exact comes_some (Stp1.up (b := b) hlt hr.1)
        · refine comes_bind (sign_c hA (b := b) _ false h0 h1) fun r4 hr4 => ?_
          obtain ⟨q4, w4⟩ := r4
          obtain ⟨rfl, hq4⟩ := hr4
          simp only at hq4 ⊢
          refine comes_cond (fun hk => ?_) (fun _ => ?_)
          · cases q4 with
            | false => simp at hk
            | true =>
              have hd := of_decide_eq_true (by simpa using hk)
              obtain ⟨_, hlt⟩ := hq4 rfl
              rw [wrap_id (show -9223372036854775808 ≤ deep + 1 by omega) (by omega), wrap_id (show -9223372036854775808 ≤ i + 1 by omega) (by omega)]
              refine comes_bind (he hd (i + 1) false b (by omega) (by omega) b0 b1) fun r hr => ?_
              obtain ⟨r1, r2, r3, r4, rA, ri, rf, rb⟩ := r
              obtain ⟨⟨e1, e2, e3, e4, e5, e6⟩, e7⟩ := hr
              simp only at e1 e2 e3 e4 e5 e6 e7 ⊢
              subst e1
              refine comes_bind (must_c hA _ rf (by omega) e3 e4 e5) fun r6 hr6 => ?_
              obtain ⟨u1, u2, u3, u4⟩ := r6
              refine comes_some (Stp1.up (b := b) hlt ?_)
              exact Stp.trans (q := (rA, ri, rf, rb)) ⟨rfl, e2, e3, e4, e5, e6⟩ hr6.1
          · refine comes_bind (fail_c hA false h0 h1 b0 b1) fun r hr => ?_
            obtain ⟨u1, u2, u3, u4⟩ := r
            exact comes_some ⟨hr.1, fun h => by rw [hr.2.1] at h; cases h⟩

theorem term_c {c : B___sutureref1_Reader__expr} {deep : Int} (hf : Rd A N c.__sutureref1_Reader__factor deep) : Rd A N (f___sutureref1_Reader__term c n) deep := by
  have hs := hA.small
  have loop : ∀ (m : Nat) (i : Int) (f : Bool) (b : Int), 0 ≤ i → i ≤ N → 0 ≤ b → b ≤ N → N - i + 1 < m → ∀ s5 s6 s7 s8 s9 s10 s11 s12, Comes (l___sutureref1_Reader__term_2 c n m (deep, A, i, f, b, s5, s6, s7, s8, s9, s10, s11, s12)) fun r => Stp A N i f (r.1, r.2.1, r.2.2.1, r.2.2.2.1) := by
    intro m
    induction m with
    | zero => intro i f b h0 h1 b0 b1 hm; omega
    | succ m ih =>
      intro i f b h0 h1 b0 b1 hm s5 s6 s7 s8 s9 s10 s11 s12
      rw [l___sutureref1_Reader__term_2]
      unfold l___sutureref1_Reader__term_2_B
      simp only
      refine comes_cond (fun hc => ?_) (fun _ => comes_some (Stp.refl h1 b0 b1))
      have hff : f = false := by simpa using hc
      subst hff
      have next : ∀ (k : Int), i < N → Comes (Option.bind (c.__sutureref1_Reader__factor deep A (IntKind.wrap .i64 (i + 1)) false b) fun r2 => Option.bind (m_sutureref1_binary n k s9 s10 s11 s12 r2.1 r2.2.1 r2.2.2.1 r2.2.2.2.1) fun r3 => l___sutureref1_Reader__term_2 c n m (deep, r2.2.2.2.2.1, r2.2.2.2.2.2.1, r2.2.2.2.2.2.2.1, r2.2.2.2.2.2.2.2, s5, s6, s7, s8, r3.1, r3.2.1, r3.2.2.1, r3.2.2.2)) fun r => Stp A N i false (r.1, r.2.1, r.2.2.1, r.2.2.2.1) := by
        intro k hlt
        rw [wrap_id (show -9223372036854775808 ≤ i + 1 by omega) (by omega)]
        refine comes_bind (hf (i + 1) false b (by omega) (by omega) b0 b1) fun r hr => ?_
        obtain ⟨r1, r2, r3, r4, rA, ri, rf, rb⟩ := r
        obtain ⟨⟨e1, e2, e3, e4, e5, e6⟩, e7⟩ := hr
        simp only at e1 e2 e3 e4 e5 e6 e7 ⊢
        subst e1
        unfold m_sutureref1_binary
        simp only [Option.bind_some]
        refine comes_mono (ih ri rf rb (by omega) e3 e4 e5 (by omega) _ _ _ _ _ _ _ _) fun a ha => ?_
        exact ⟨ha.same, by have := ha.le; omega, ha.top, ha.bad0, ha.bad1, fun h => by cases h⟩
      refine comes_bind (sign_c hA (b := b) _ false h0 h1) fun r hr => ?_
      obtain ⟨q1, w1⟩ := r
      obtain ⟨rfl, hq1⟩ := hr
      simp only at hq1 ⊢
      refine comes_cond (fun hk => ?_) (fun _ => ?_)
      · exact next 6 (hq1 hk).2
      · refine comes_bind (sign_c hA (b := b) _ false h0 h1) fun r hr => ?_
        obtain ⟨q1, w1⟩ := r
        obtain ⟨rfl, hq1⟩ := hr
        simp only at hq1 ⊢
        refine comes_cond (fun hk => ?_) (fun _ => ?_)
        · exact next 7 (hq1 hk).2
        · refine comes_bind (sign_c hA (b := b) _ false h0 h1) fun r hr => ?_
          obtain ⟨q1, w1⟩ := r
          obtain ⟨rfl, hq1⟩ := hr
          simp only at hq1 ⊢
          refine comes_cond (fun hk => ?_) (fun _ => ?_)
          · exact next 8 (hq1 hk).2
          · exact comes_some (Stp.refl h1 b0 b1)
  intro i f b h0 h1 b0 b1
  unfold f___sutureref1_Reader__term
  refine comes_bind (hf i f b h0 h1 b0 b1) fun r hr => ?_
  obtain ⟨r1, r2, r3, r4, rA, ri, rf, rb⟩ := r
  have hr' := hr
  obtain ⟨⟨e1, e2, e3, e4, e5, e6⟩, e7⟩ := hr
  simp only at e1 e2 e3 e4 e5 e6 e7 ⊢
  subst e1
  refine comes_bind (loop n ri rf rb (by omega) e3 e4 e5 (by omega) _ _ _ _ _ _ _ _) fun p hp => ?_
  exact comes_some (Stp1.left hr' hp)

theorem sum_c {c : B___sutureref1_Reader__expr} {deep : Int} (hf : Rd A N c.__sutureref1_Reader__term deep) : Rd A N (f___sutureref1_Reader__sum c n) deep := by
  have hs := hA.small
  have loop : ∀ (m : Nat) (i : Int) (f : Bool) (b : Int), 0 ≤ i → i ≤ N → 0 ≤ b → b ≤ N → N - i + 1 < m → ∀ s5 s6 s7 s8 s9 s10 s11 s12, Comes (l___sutureref1_Reader__sum_2 c n m (deep, A, i, f, b, s5, s6, s7, s8, s9, s10, s11, s12)) fun r => Stp A N i f (r.1, r.2.1, r.2.2.1, r.2.2.2.1) := by
    intro m
    induction m with
    | zero => intro i f b h0 h1 b0 b1 hm; omega
    | succ m ih =>
      intro i f b h0 h1 b0 b1 hm s5 s6 s7 s8 s9 s10 s11 s12
      rw [l___sutureref1_Reader__sum_2]
      unfold l___sutureref1_Reader__sum_2_B
      simp only
      refine comes_cond (fun hc => ?_) (fun _ => comes_some (Stp.refl h1 b0 b1))
      have hff : f = false := by simpa using hc
      subst hff
      have next : ∀ (k : Int), i < N → Comes (Option.bind (c.__sutureref1_Reader__term deep A (IntKind.wrap .i64 (i + 1)) false b) fun r2 => Option.bind (m_sutureref1_binary n k s9 s10 s11 s12 r2.1 r2.2.1 r2.2.2.1 r2.2.2.2.1) fun r3 => l___sutureref1_Reader__sum_2 c n m (deep, r2.2.2.2.2.1, r2.2.2.2.2.2.1, r2.2.2.2.2.2.2.1, r2.2.2.2.2.2.2.2, s5, s6, s7, s8, r3.1, r3.2.1, r3.2.2.1, r3.2.2.2)) fun r => Stp A N i false (r.1, r.2.1, r.2.2.1, r.2.2.2.1) := by
        intro k hlt
        rw [wrap_id (show -9223372036854775808 ≤ i + 1 by omega) (by omega)]
        refine comes_bind (hf (i + 1) false b (by omega) (by omega) b0 b1) fun r hr => ?_
        obtain ⟨r1, r2, r3, r4, rA, ri, rf, rb⟩ := r
        obtain ⟨⟨e1, e2, e3, e4, e5, e6⟩, e7⟩ := hr
        simp only at e1 e2 e3 e4 e5 e6 e7 ⊢
        subst e1
        unfold m_sutureref1_binary
        simp only [Option.bind_some]
        refine comes_mono (ih ri rf rb (by omega) e3 e4 e5 (by omega) _ _ _ _ _ _ _ _) fun a ha => ?_
        exact ⟨ha.same, by have := ha.le; omega, ha.top, ha.bad0, ha.bad1, fun h => by cases h⟩
      refine comes_bind (sign_c hA (b := b) _ false h0 h1) fun r hr => ?_
      obtain ⟨q1, w1⟩ := r
      obtain ⟨rfl, hq1⟩ := hr
      simp only at hq1 ⊢
      refine comes_cond (fun hk => ?_) (fun _ => ?_)
      · exact next 4 (hq1 hk).2
      · refine comes_bind (sign_c hA (b := b) _ false h0 h1) fun r hr => ?_
        obtain ⟨q1, w1⟩ := r
        obtain ⟨rfl, hq1⟩ := hr
        simp only at hq1 ⊢
        refine comes_cond (fun hk => ?_) (fun _ => ?_)
        · exact next 5 (hq1 hk).2
        · exact comes_some (Stp.refl h1 b0 b1)
  intro i f b h0 h1 b0 b1
  unfold f___sutureref1_Reader__sum
  refine comes_bind (hf i f b h0 h1 b0 b1) fun r hr => ?_
  obtain ⟨r1, r2, r3, r4, rA, ri, rf, rb⟩ := r
  have hr' := hr
  obtain ⟨⟨e1, e2, e3, e4, e5, e6⟩, e7⟩ := hr
  simp only at e1 e2 e3 e4 e5 e6 e7 ⊢
  subst e1
  refine comes_bind (loop n ri rf rb (by omega) e3 e4 e5 (by omega) _ _ _ _ _ _ _ _) fun p hp => ?_
  exact comes_some (Stp1.left hr' hp)

theorem expr_c {c : B___sutureref1_Reader__expr} {deep : Int} (hf : Rd A N c.__sutureref1_Reader__sum deep) : Rd A N (f___sutureref1_Reader__expr c n) deep := by
  have hs := hA.small
  intro i f b h0 h1 b0 b1
  unfold f___sutureref1_Reader__expr
  refine comes_bind (hf i f b h0 h1 b0 b1) fun r hr => ?_
  obtain ⟨r1, r2, r3, r4, rA, ri, rf, rb⟩ := r
  have hr' := hr
  obtain ⟨⟨e1, e2, e3, e4, e5, e6⟩, e7⟩ := hr
  simp only at e1 e2 e3 e4 e5 e6 e7 ⊢
  subst e1
  have next : ∀ (k : Int), rf = false → ri < N → Comes (Option.bind (c.__sutureref1_Reader__sum deep rA (IntKind.wrap .i64 (ri + 1)) rf rb) fun r2' => Option.bind (m_sutureref1_binary n k r1 r2 r3 r4 r2'.1 r2'.2.1 r2'.2.2.1 r2'.2.2.2.1) fun r3' => some (r3'.1, r3'.2.1, r3'.2.2.1, r3'.2.2.2, r2'.2.2.2.2.1, r2'.2.2.2.2.2.1, r2'.2.2.2.2.2.2.1, r2'.2.2.2.2.2.2.2)) fun r => Stp1 rA N i f r.2.2.2.2 := by
    intro k hrf hlt
    subst hrf
    rw [wrap_id (show -9223372036854775808 ≤ ri + 1 by omega) (by omega)]
    refine comes_bind (hf (ri + 1) false rb (by omega) (by omega) e4 e5) fun r hr => ?_
    obtain ⟨u1, u2, u3, u4, u5⟩ := r
    unfold m_sutureref1_binary
    simp only [Option.bind_some]
    exact comes_some (Stp1.left hr' (Stp1.up (b := rb) hlt hr.1).1)
  refine comes_bind (sign_c hA (b := rb) _ rf (by omega) e3) fun r hr => ?_
  obtain ⟨q1, w1⟩ := r
  obtain ⟨rfl, hq1⟩ := hr
  simp only at hq1 ⊢
  refine comes_cond (fun hk => ?_) (fun _ => ?_)
  · exact next 9 (hq1 hk).1 (hq1 hk).2
  · refine comes_bind (sign_c hA (b := rb) _ rf (by omega) e3) fun r hr => ?_
    obtain ⟨q1, w1⟩ := r
    obtain ⟨rfl, hq1⟩ := hr
    simp only at hq1 ⊢
    refine comes_cond (fun hk => ?_) (fun _ => ?_)
    · exact next 10 (hq1 hk).1 (hq1 hk).2
    · exact comes_some hr'

theorem exprs_c : ∀ (m : Nat) (deep : Int), 0 ≤ deep → deep ≤ 8 →
    (4 * (8 - deep) + 1 ≤ m → Rd A N (unB___sutureref1_Reader__expr n m).__sutureref1_Reader__factor deep) ∧
    (4 * (8 - deep) + 2 ≤ m → Rd A N (unB___sutureref1_Reader__expr n m).__sutureref1_Reader__term deep) ∧
    (4 * (8 - deep) + 3 ≤ m → Rd A N (unB___sutureref1_Reader__expr n m).__sutureref1_Reader__sum deep) ∧
    (4 * (8 - deep) + 4 ≤ m → Rd A N (unB___sutureref1_Reader__expr n m).__sutureref1_Reader__expr deep) := by
  intro m
  induction m with
  | zero => intro deep d0 d1; exact ⟨fun h => by omega, fun h => by omega, fun h => by omega, fun h => by omega⟩
  | succ m ih =>
    intro deep d0 d1
    refine ⟨fun h => ?_, fun h => ?_, fun h => ?_, fun h => ?_⟩
    · exact factor_c hA hn d0 d1 (fun hd => (ih (deep + 1) (by omega) (by omega)).1 (by omega)) (fun hd => (ih (deep + 1) (by omega) (by omega)).2.2.2 (by omega))
    · exact term_c hA hn ((ih deep d0 d1).1 (by omega))
    · exact sum_c hA hn ((ih deep d0 d1).2.1 (by omega))
    · exact expr_c hA hn ((ih deep d0 d1).2.2.1 (by omega))

theorem whole_c {i b : Int} (s : ByteArray) (f : Bool) (h0 : 0 ≤ i) (h1 : i ≤ N) (b0 : 0 ≤ b) (b1 : b ≤ N) : Comes (m___sutureref1_Reader__whole n s A i f b) fun r => Stp A N i f r.2.2.2.2 := by
  unfold m___sutureref1_Reader__whole
  cases f with
  | true => exact comes_some (Stp.refl h1 b0 b1)
  | false =>
    simp only [Bool.not_false, cond_true]
    refine comes_bind ((exprs_c hA hn n 0 (by omega) (by omega)).2.2.2 (by omega) i false b h0 h1 b0 b1) fun r hr => ?_
    obtain ⟨u1, u2, u3, u4, u5⟩ := r
    exact comes_some hr.1
end
end Go.Proofs.Ytgpokdaacbjimab.W
