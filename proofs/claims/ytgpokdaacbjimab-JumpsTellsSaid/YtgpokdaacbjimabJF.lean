/- Chapter 9, plain: the statements' programs, of raw numbers: each comes to threads of statements. -/
import Derived.Test.YtgpokdaacbjimabJE
namespace Go.Proofs.Ytgpokdaacbjimab.W
open Go Go.Eng
set_option linter.unusedVariables false
set_option linter.unusedSimpArgs false

theorem maxIJ : (IntKind.i64.max : Int) = 9223372036854775807 := rfl
def int1J (x : Int) : T := .sc (.int .i64 x)
theorem idx_intsJ {v : List Int} {i : Nat} (h : i < v.length) : idx true [.int .i64] (ints .i64 v) (i : Int) = some (int1J v[i]) := by
  have h0 : decide ((0 : Int) ≤ (i : Int)) = true := by simp
  simp only [idx, cond_true, h0, Int.toNat_natCast, ints, List.getElem?_map, List.getElem?_eq_getElem h, Option.map_some]
  rfl

theorem idx1_strJ {v : List T} {i : Nat} {k : Nat} (h : i < v.length) (hv : ∀ x ∈ v, ∃ s, x = .sc (.string s) ∧ s.size ≤ k) : Comes (idx1 true .str v (i : Int)) fun y => y.str.size ≤ k := by
  unfold idx1
  simp only [cond_true, decide_eq_true (show (0 : Int) ≤ (i : Int) by omega), Int.toNat_natCast, List.getElem?_eq_getElem h]
  obtain ⟨s, hs, hk⟩ := hv _ (List.getElem_mem h)
  rw [hs]
  exact ⟨_, rfl, hk⟩

theorem app_size (x y : ByteArray) : (x ++ y).size = x.size + y.size := ByteArray.size_append

theorem deep_c {n : Nat} {z : List Int} (hz : z.length ≤ 17592186044416) (hn : 11 * z.length + 7000 < n) : Comes (m_suturelaw9_deep n (ints .i64 z)) fun r => ∃ P : List (List S), r.2 = encP P ∧ P.length ≤ 4 ∧ cntP P ≤ 6000 ∧ gdPr P := by
  have names : ∀ x ∈ [(T.sc (.string (⟨#[97]⟩ : ByteArray))), (T.sc (.string (⟨#[98]⟩ : ByteArray))), (T.sc (.string (⟨#[101]⟩ : ByteArray)))], ∃ s, x = .sc (.string s) ∧ s.size ≤ 1 := by
    intro x hx
    simp only [List.mem_cons, List.not_mem_nil, or_false] at hx
    rcases hx with rfl | rfl | rfl <;> exact ⟨_, rfl, Nat.le_refl _⟩
  have heads : ∀ x ∈ [(T.sc (.string (⟨#[32, 105, 102, 32, 49, 32, 123]⟩ : ByteArray))), (T.sc (.string (⟨#[32, 114, 101, 112, 101, 97, 116, 32, 50, 32, 123]⟩ : ByteArray)))], ∃ s, x = .sc (.string s) ∧ s.size ≤ 11 := by
    intro x hx
    simp only [List.mem_cons, List.not_mem_nil, or_false] at hx
    rcases hx with rfl | rfl <;> exact ⟨_, rfl, by decide⟩
  have g1 : (⟨#[32, 103, 111, 116, 111, 32]⟩ : ByteArray).size = 6 := rfl
  have g2 : (⟨#[32, 108, 97, 98, 101, 108, 32]⟩ : ByteArray).size = 7 := rfl
  have g3 : (⟨#[125]⟩ : ByteArray).size = 1 := rfl
  have g4 : (⟨#[125, 32, 103, 111, 32, 123]⟩ : ByteArray).size = 6 := rfl
  have g5 : (⟨#[103, 111, 123]⟩ : ByteArray).size = 3 := rfl
  have ten : (!decide ((10 : Nat) = 0)) = true := rfl
  have loop : ∀ (m i : Nat) (s0 : ByteArray) (op : Int), i ≤ z.length → z.length - i < m → s0.size ≤ 3 + 11 * i → 0 ≤ op → op ≤ 5 → ∀ s5 s6, Comes (l_suturelaw9_deep_4 n m (s0, op, ints .i64 z, ((List.length (ints .i64 z) : Nat) : Int), (i : Int), s5, s6)) fun r => r.1.size ≤ 3 + 11 * z.length ∧ 0 ≤ r.2.1 ∧ r.2.1 ≤ 5 := by
    intro m
    induction m with
    | zero => intro i s0 op hi hm; omega
    | succ m ih =>
      intro i s0 op hi hm hs o0 o1 s5 s6
      rw [l_suturelaw9_deep_4]
      unfold l_suturelaw9_deep_4_B
      simp only
      have hlen : (List.length (ints .i64 z) : Nat) = z.length := by simp [ints]
      refine comes_cond (fun hc => ?_) (fun _ => comes_some ⟨by simp only; omega, o0, o1⟩)
      have hc := of_decide_eq_true hc
      rw [hlen] at hc
      have hlt : i < z.length := by omega
      rw [idx_intsJ hlt]
      simp only [Option.bind_some]
      rw [wrap_up (show i ≤ 281474976710656 by omega)]
      obtain ⟨k, hk1, hk2⟩ := pick_eq n ((int1J z[i]).cell 0).int 10 (by omega) (by omega)
      obtain ⟨k3, h31, h32⟩ := pick_eq n (IntKind.wrap .i64 (Int.tdiv ((int1J z[i]).cell 0).int 10)) 3 (by omega) (by omega)
      obtain ⟨k2, h21, h22⟩ := pick_eq n (IntKind.wrap .i64 (Int.tdiv ((int1J z[i]).cell 0).int 10)) 2 (by omega) (by omega)
      rw [hk1, h31, h21]
      simp only [Option.bind_some]
      have next := fun (t0 : ByteArray) (op2 : Int) (h1 : t0.size ≤ 3 + 11 * (i + 1)) (h2 : 0 ≤ op2) (h3 : op2 ≤ 5) => ih (i + 1) t0 op2 (by omega) (by omega) h1 h2 h3 s5 s6
      refine comes_cond (fun _ => ?_) (fun _ => ?_)
      · refine comes_must (by rw [decide_eq_true_eq, maxIJ, g1]; omega) (comes_must ten ?_)
        refine comes_bind (idx1_strJ (k := 1) (show k3 < 3 by omega) names) fun y hy => ?_
        refine comes_must (by rw [decide_eq_true_eq, maxIJ, app_size, g1]; omega) ?_
        exact next _ _ (by rw [app_size, app_size, g1]; omega) o0 o1
      · refine comes_cond (fun _ => ?_) (fun _ => ?_)
        · refine comes_must (by rw [decide_eq_true_eq, maxIJ, g2]; omega) (comes_must ten ?_)
          refine comes_bind (idx1_strJ (k := 1) (show k3 < 3 by omega) names) fun y hy => ?_
          refine comes_must (by rw [decide_eq_true_eq, maxIJ, app_size, g2]; omega) ?_
          exact next _ _ (by rw [app_size, app_size, g2]; omega) o0 o1
        · refine comes_cond (fun _ => ?_) (fun _ => ?_)
          · refine comes_cond (fun ho => ?_) (fun _ => next _ _ (by omega) o0 o1)
            have ho := of_decide_eq_true ho
            refine comes_must ten ?_
            refine comes_bind (idx1_strJ (k := 11) (show k2 < 2 by omega) heads) fun y hy => ?_
            refine comes_must (by rw [decide_eq_true_eq, maxIJ]; omega) ?_
            rw [wrap_id (show -9223372036854775808 ≤ op + 1 by omega) (by omega)]
            exact next _ _ (by rw [app_size]; omega) (by omega) (by omega)
          · refine comes_cond (fun _ => ?_) (fun _ => ?_)
            · refine comes_cond (fun ho => ?_) (fun _ => next _ _ (by omega) o0 o1)
              have ho := of_decide_eq_true ho
              refine comes_must (by rw [decide_eq_true_eq, maxIJ, g3]; omega) ?_
              rw [wrap_id (show -9223372036854775808 ≤ op - 1 by omega) (by omega)]
              exact next _ _ (by rw [app_size, g3]; omega) (by omega) (by omega)
            · refine comes_cond (fun ho => ?_) (fun _ => next _ _ (by omega) o0 o1)
              refine comes_must (by rw [decide_eq_true_eq, maxIJ, g4]; omega) ?_
              exact next _ _ (by rw [app_size, g4]; omega) o0 o1
  have shut : ∀ (m : Nat) (s0 : ByteArray) (op : Int), -1 ≤ op → op ≤ 5 → op + 1 < m → (s0.size : Int) ≤ 200000000000000 - op → ∀ s2 s3, Comes (l_suturelaw9_deep_22 n m (s0, op, s2, s3)) fun r => (r.1.size : Int) ≤ s0.size + op + 1 := by
    intro m
    induction m with
    | zero => intro s0 op o0 o1 hm; omega
    | succ m ih =>
      intro s0 op o0 o1 hm hs s2 s3
      rw [l_suturelaw9_deep_22]
      unfold l_suturelaw9_deep_22_B
      simp only
      refine comes_cond (fun ho => ?_) (fun _ => comes_some (by simp only; omega))
      have ho := of_decide_eq_true ho
      refine comes_must (by rw [decide_eq_true_eq, maxIJ, g3]; omega) ?_
      rw [wrap_id (show -9223372036854775808 ≤ op - 1 by omega) (by omega)]
      refine comes_mono (ih (s0 ++ (⟨#[125]⟩ : ByteArray)) (op - 1) (by omega) (by omega) (by omega) (by rw [app_size, g3]; omega) s2 s3) fun a ha => ?_
      rw [app_size, g3] at ha
      omega
  unfold m_suturelaw9_deep
  refine comes_bind (loop n 0 _ 0 (by omega) (by omega) (by rw [g5]; omega) (by omega) (by omega) _ _) fun p hp => ?_
  obtain ⟨p1, p2, p3, p4⟩ := p
  obtain ⟨h1, h2, h3⟩ := hp
  simp only at h1 h2 h3 ⊢
  refine comes_bind (shut n p1 p2 (by omega) h3 (by omega) (by omega) p3 p4) fun q hq => ?_
  obtain ⟨q1, q2, q3⟩ := q
  simp only at hq ⊢
  unfold m_suturelaw9_read
  refine comes_bind (P := fun r => ∃ P : List (List S), r.2 = encP P ∧ P.length ≤ 4 ∧ cntP P ≤ 6000 ∧ gdPr P) (comes_bind (parse_c (n := n) (s := q1) (by rw [← size_L]; omega) (by rw [← size_L]; omega)) fun r hr => comes_some hr) fun r hr => ?_
  exact comes_some hr
end Go.Proofs.Ytgpokdaacbjimab.W
