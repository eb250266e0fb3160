/- Chapter 9, plain: JumpsTells. No conditions. -/
import Derived.Test.YtgpokdaacbjimabJN
import Derived.Test.YtgpokdaacbjimabPX
namespace Go.Proofs.Ytgpokdaacbjimab.W
open Go Go.Eng Go.Eng.Fl Go.RowKit
set_option linter.unusedVariables false
set_option linter.unusedSimpArgs false
set_option linter.unusedSectionVars false

theorem th_low : ∀ (P : List (List S)) (t : Nat), ∀ x ∈ thP P t, t ≤ x
  | [], t, x, hx => by simp [thP] at hx
  | l :: r, t, x, hx => by
    simp only [thP, List.mem_append] at hx
    rcases hx with hx | hx
    · rw [(List.mem_replicate.1 hx).2]; exact Nat.le_refl _
    · have := th_low r (t + 1) x hx; omega
theorem th_mono : ∀ (P : List (List S)) (t : Nat), (thP P t).Pairwise (· ≤ ·)
  | [], t => by simp [thP]
  | l :: r, t => by
    rw [thP, List.pairwise_append]
    refine ⟨List.pairwise_replicate.2 (.inr (Nat.le_refl _)), th_mono r (t + 1), fun a ha b hb => ?_⟩
    rw [(List.mem_replicate.1 ha).2]
    have := th_low r (t + 1) b hb
    omega
theorem ord_of {P : List (List S)} (hP : cntP P ≤ 6000) (hl : P.length ≤ 4) : Ord (plP P 0 0).1 := by
  obtain ⟨p1, p2, p3⟩ := plP_len P 0 0
  have hrow := plP_row P 0 0
  refine ⟨by omega, hrow.some_, fun x hx => by have := arP P 0 0 x hx; have := hrow.high x hx; omega, fun i j hi hj hij => ?_⟩
  have h := th_mono P 0
  rw [← plP_th P 0 0, List.pairwise_iff_getElem] at h
  rcases Nat.lt_or_eq_of_le hij with h' | rfl
  · have := h i j (by simpa using hi) (by simpa using hj) h'
    simpa using this
  · exact Nat.le_refl _

mutual
theorem gd_flS : ∀ (s : S), gdS s → ∀ t ∈ flS s, gdP t.at_
  | .mk kind name other num ek en es eof body els re im, h, t, ht => by
    simp only [gdS] at h
    simp only [flS, List.mem_cons, List.mem_append] at ht
    rcases ht with rfl | ht | ht
    · exact h.1
    · exact gd_flL body h.2.1 t ht
    · exact gd_flL els h.2.2 t ht
theorem gd_flL : ∀ (l : List S), gdL l → ∀ t ∈ flL l, gdP t.at_
  | [], _, t, ht => by simp [flL] at ht
  | s :: r, h, t, ht => by
    simp only [gdL] at h
    simp only [flL, List.mem_append] at ht
    rcases ht with ht | ht
    · exact gd_flS s h.1 t ht
    · exact gd_flL r h.2 t ht
end
theorem gd_flP : ∀ (P : List (List S)), gdPr P → ∀ t ∈ flP P, gdP t.at_
  | [], _, t, ht => by simp [flP] at ht
  | l :: r, h, t, ht => by
    simp only [flP, List.mem_append] at ht
    rcases ht with ht | ht
    · exact gd_flL l (h l (by simp)) t ht
    · exact gd_flP r (fun x hx => h x (by simp [hx])) t ht
theorem gd_zero : gdP (0, 0) := by
  unfold gdP
  decide +kernel
theorem resX_gd {X : List Pl} (h : ∀ x ∈ X, gdP x.s.at_) : gdP (resX X).1 := by
  unfold resX
  split
  · split
    · rename_i x hx
      exact h x (List.mem_of_getElem? hx)
    · exact gd_zero
  · exact gd_zero

section
variable {n : Nat}
theorem tells_loop9 (hn : 100000 < n) {P : List (List S)} (hP : cntP P ≤ 6000) (hl : P.length ≤ 4) (d : List T) (c1 c3 : Nat × Nat) (c2 c4 : Int) : ∀ (m : Nat) (j : Int), -1 ≤ j → j ≤ (cntP P : Int) + 1 → (cntP P : Int) + 1 - j < m →
    l_suturelaw9_JumpsTells_7 n m (c1, c2, c3, c4, j, d, encP P) = some (Sum.inr (c1, c2, c3, c4, d, encP P)) := by
  have hX := ord_of hP hl
  obtain ⟨p1, p2, p3⟩ := plP_len P 0 0
  intro m
  induction m with
  | zero => intro j h1 h2 h3; omega
  | succ m ih =>
    intro j h1 h2 h3
    rw [l_suturelaw9_JumpsTells_7]
    unfold l_suturelaw9_JumpsTells_7_B
    simp only
    have hFl : (flP P).length = cntP P := by rw [← plP_s P 0 0, List.length_map, p1]
    rw [list_eq hn P hP hl d, Option.bind_some, encSL_lenJ, hFl, wrap_up (show cntP P ≤ 281474976710656 by omega)]
    by_cases hlt : j < (cntP P : Int) + 1
    · rw [decide_eq_true (show j < ((cntP P + 1 : Nat) : Int) by omega), cond_true]
      have key : ∃ t, m_jumps_Target n d (encP P) j = some t ∧ m_sutureref8_Target n d (encP P) j = some t := by
        unfold m_jumps_Target m_sutureref8_Target
        rw [all_eq hn P hP hl d, all8 hn P hP hl d]
        simp only [Option.bind_some]
        by_cases hin : 0 ≤ j ∧ j < (cntP P : Int)
        · obtain ⟨i, rfl⟩ : ∃ i : Nat, j = (i : Int) := ⟨j.toNat, by omega⟩
          have hi : i < (plP P 0 0).1.length := by omega
          rw [target_eq hn hX hi, target8_eq hn hX hi]
          exact ⟨_, rfl, rfl⟩
        · have ho : j < 0 ∨ ((plP P 0 0).1.length : Int) ≤ j := by omega
          rw [target_out ho, target8_out ho]
          exact ⟨_, rfl, rfl⟩
      obtain ⟨t, k1, k2⟩ := key
      rw [k1, k2, Option.bind_some, Option.bind_some, bne_self_eq_false, cond_false, wrap_id (by omega) (by omega)]
      exact ih (j + 1) (by omega) (by omega) (by omega)
    · rw [decide_eq_false (show ¬ j < ((cntP P + 1 : Nat) : Int) by omega), cond_false]

theorem tells9 (hn : 100000 < n) (hk : m_suturelaw9_known n = some true) {P : List (List S)} (hP : cntP P ≤ 6000) (hl : P.length ≤ 4) (hg : gdPr P) (d : List T) : (
Option.bind (m_jumps_Check n d (encP P)) fun r2 =>
Option.bind (m_sutureref8_Jumps n d (encP P)) fun r3 =>
Option.bind (l_suturelaw9_JumpsTells_7 n n (r2.1, r2.2, r3.1, r3.2, (-1), d, encP P)) fun x7 =>
Sum.elim (fun p8 => 
some p8.1) (fun x7' => (fun p9 => 
Option.bind (m_suturelaw9_known n) fun r10 =>
some (bif (bif r10 then (cplxEq .f64 p9.1.1 p9.1.2 p9.2.2.1.1 p9.2.2.1.2) else false) then ((p9.2.1 : Int) == p9.2.2.2.1) else false)) x7') x7) = some true := by
  have hX := ord_of hP hl
  obtain ⟨p1, p2, p3⟩ := plP_len P 0 0
  have hgX : ∀ x ∈ (plP P 0 0).1, gdP x.s.at_ := by
    intro x hx
    refine gd_flP P hg x.s ?_
    rw [← plP_s P 0 0]
    exact List.mem_map.2 ⟨x, hx, rfl⟩
  have hr := resX_gd hgX
  rw [check_eq hn hX P hP hl rfl d, jumps8_eq hn hX P hP hl rfl d, Option.bind_some, Option.bind_some, tells_loop9 hn hP hl d _ _ _ _ n (-1) (by omega) (by omega) (by omega), Option.bind_some]
  simp only [Sum.elim_inr]
  rw [hk, Option.bind_some]
  unfold gdP at hr
  rw [hr]
  simp only [cond_true, beq_self_eq_true]
end

/-! raw acts -/
mutual
def toS (pl : Nat → Nat × Nat) : St → S
  | .mk k n o m e body els p => .mk k (B n) (B o) (m : Int) (kO e) (nO e) (wO e) (oO e) (toSL pl body) (toSL pl els) (pl p).1 (pl p).2
def toSL (pl : Nat → Nat × Nat) : List St → List S
  | [] => []
  | s :: r => toS pl s :: toSL pl r
end
mutual
theorem toS_enc (pl : Nat → Nat × Nat) : ∀ s : St, (toS pl s).enc = encS pl s
  | .mk k n o m e body els p => by simp only [toS, S.enc, encS, toSL_enc pl body, toSL_enc pl els]
theorem toSL_enc (pl : Nat → Nat × Nat) : ∀ l : List St, encSLJ (toSL pl l) = encSL pl l
  | [] => by simp only [toSL, encSLJ, encSL]
  | s :: r => by simp only [toSL, encSLJ, encSL, toS_enc pl s, toSL_enc pl r]
end
mutual
theorem toS_cnt (pl : Nat → Nat × Nat) : ∀ s : St, (toS pl s).cnt = ctS s
  | .mk k n o m e body els p => by
    have h1 := toSL_cnt pl body
    have h2 := toSL_cnt pl els
    simp only [toS, S.cnt, ctS]
    omega
theorem toSL_cnt (pl : Nat → Nat × Nat) : ∀ l : List St, cntL (toSL pl l) = ctL l
  | [] => by simp only [toSL, cntL, ctL]
  | s :: r => by simp only [toSL, cntL, ctL, toS_cnt pl s, toSL_cnt pl r]
end
mutual
theorem toS_gd : ∀ s : St, gdS (toS pl0 s)
  | .mk k n o m e body els p => by simp only [toS, gdS]; exact ⟨gd_zero, toSL_gd body, toSL_gd els⟩
theorem toSL_gd : ∀ l : List St, gdL (toSL pl0 l)
  | [] => by simp only [toSL, gdL]
  | s :: r => by simp only [toSL, gdL]; exact ⟨toS_gd s, toSL_gd r⟩
end
theorem toP_enc : ∀ tl : List (List St), tl.map (encT pl0) = encP (tl.map (toSL pl0))
  | [] => rfl
  | l :: r => by
    have := toP_enc r
    unfold encP at this ⊢
    rw [List.map_cons, this, List.map_cons, List.map_cons, toSL_enc]
    rfl
theorem toP_cnt : ∀ tl : List (List St), cntP (tl.map (toSL pl0)) = ctTL tl
  | [] => by simp only [List.map_nil, cntP, ctTL]
  | l :: r => by simp only [List.map_cons, cntP, ctTL, toSL_cnt, toP_cnt r]
theorem toP_gd (tl : List (List St)) : gdPr (tl.map (toSL pl0)) := by
  intro l hl
  obtain ⟨t, _, rfl⟩ := List.mem_map.1 hl
  exact toSL_gd t

theorem jumpsTells_law (z : List Int) (how : Int) (a b : List Act5) (any : Bool) (lz : z.length ≤ 17592186044416) : ∃ n, m_suturelaw9_JumpsTells n (ints .i64 z) how (a.map Act5.t) (b.map Act5.t) any = some true := by
  refine ⟨(11 * z.length + 110000) + 200, ?_⟩
  have hkn := known_ok (11 * z.length + 110000)
  generalize hN : (11 * z.length + 110000) + 200 = n at hkn ⊢
  have hn : 100000 < n := by omega
  obtain ⟨r0, hr1, P, hr2, hl, hP, hg⟩ := deep_c (n := n) lz (by omega)
  obtain ⟨d, p⟩ := r0
  simp only at hr2
  subst hr2
  unfold m_suturelaw9_JumpsTells
  rw [hr1, Option.bind_some]
  cases any with
  | true =>
    rw [cond_true]
    obtain ⟨ds, tl, h1, h2, h3, h4, h5, h6, h7⟩ := make_eq hn how a b [] 6
    rw [show ([] : List T) = ([] : List Act5).map Act5.t from rfl, h1, Option.bind_some]
    simp only
    rw [toP_enc]
    have hc := ctTL_len h5
    refine tells9 hn hkn (by rw [toP_cnt]; omega) ?_ (toP_gd tl) _
    rw [List.length_map]
    rcases h6 with h | ⟨h, _⟩ <;> omega
  | false =>
    rw [cond_false]
    exact tells9 hn hkn hP hl hg d
end Go.Proofs.Ytgpokdaacbjimab.W
