/- Chapter 9, plain: JumpsOut. -/
import Derived.Test.YtgpokdaacbjimabJI
namespace Go.Proofs.Ytgpokdaacbjimab.W
open Go Go.Eng
set_option linter.unusedVariables false
set_option linter.unusedSimpArgs false
set_option linter.unusedSectionVars false

theorem getS (s : S) : ((S.enc s).cell 0).int = s.kind ∧ ((S.enc s).cell 1).str = s.name := by
  obtain ⟨kind, name, other, num, ek, en, es, eof, body, els, re, im⟩ := s
  simp only [S.enc]
  exact ⟨rfl, rfl⟩

theorem idx_Sat {l : List S} {i : Nat} (h : i < l.length) : idx true [.int .i64, .str, .str, .int .i64, .int .i64, .int .i64, .str, .list, .list, .list, .cplx .f64] (encSL l) (i : Int) = some (S.enc l[i]) := by
  have e : l = l.take i ++ l[i] :: l.drop (i + 1) := by
    rw [← List.drop_eq_getElem_cons h, List.take_append_drop]
  have hl : (l.take i).length = i := by rw [List.length_take]; omega
  generalize hs : l[i] = s at e
  obtain ⟨kind, name, other, num, ek, en, es, eof, body, els, re, im⟩ := s
  have := idx_S (l.take i) kind name other num ek en es eof body els re im (l.drop (i + 1))
  rw [← e, hl] at this
  exact this

theorem within_eq {n : Nat} (hn : 100000 < n) (s : S) (hs : s.inn ≤ 50000) : m_suturelaw9_within n ((S.enc s).cell 0).int ((S.enc s).cell 1).str ((S.enc s).cell 2).str ((S.enc s).cell 3).int ((S.enc s).cell 4).int ((S.enc s).cell 5).int ((S.enc s).cell 6).str ((S.enc s).cell 7).lst ((S.enc s).cell 8).lst ((S.enc s).cell 9).lst (((S.enc s).cell 10).re, ((S.enc s).cell 10).im) = some ((s.inn : Nat) : Int) := by
  obtain ⟨kind, name, other, num, ek, en, es, eof, body, els, re, im⟩ := s
  simp only [S.inn] at hs ⊢
  have h := within_c hn n body els (by omega) hs kind name other num ek en es eof (re, im)
  unfold m_suturelaw9_within
  simp only [S.enc]
  exact h

theorem inn_le {l : List S} : ∀ {i : Nat} {s : S}, l[i]? = some s → s.inn ≤ cntL l := by
  induction l with
  | nil => intro i s h; simp at h
  | cons a l ih =>
    intro i s h
    cases i with
    | zero =>
      simp only [List.getElem?_cons_zero, Option.some.injEq] at h
      subst h
      obtain ⟨kind, name, other, num, ek, en, es, eof, body, els, re, im⟩ := a
      simp only [cntL, S.cnt, S.inn]; omega
    | succ i =>
      simp only [List.getElem?_cons_succ] at h
      have := ih h
      simp only [cntL]; omega

theorem inner_loop {n : Nat} (hn : 100000 < n) {F : List S} (hF : F.length ≤ 6000) (hin : ∀ x ∈ F, x.inn ≤ 6000) {i t : Nat} (ht : t < F.length) (hi : i < F.length)
    (hno : ∀ k x, k < t → F[k]? = some x → t ≤ k + x.inn → i ≤ k → False) (hit : i < t) : ∀ (m k : Nat), k ≤ t → t - k < m → ∀ (s0 : Int) s2 s6 s7 s8 s9 s10 s11 s12 s13 s14 s15 s16 s17 s18 s19 s20 s21,
    l_suturelaw9_JumpsOut_15 n m (s0, encSL F, s2, (i : Int), (t : Int), (k : Int), s6, s7, s8, s9, s10, s11, s12, s13, s14, s15, s16, s17, s18, s19, s20, s21) = some (.inr (s0, encSL F, s2, s6, s7, s8, s9, s10, s11, s12, s13, s14, s15, s16, s17, s18, s19, s20, s21)) := by
  intro m
  induction m with
  | zero => intro k h1 h2; omega
  | succ m ih =>
    intro k h1 h2 s0 s2 s6 s7 s8 s9 s10 s11 s12 s13 s14 s15 s16 s17 s18 s19 s20 s21
    rw [l_suturelaw9_JumpsOut_15]
    unfold l_suturelaw9_JumpsOut_15_B
    simp only
    by_cases hlt : k < t
    · have hkl : k < F.length := by omega
      have hinn := hin _ (List.getElem_mem hkl)
      refine cond_yes (decide_eq_true (by omega)) ?_
      refine bind_eq (idx_Sat hkl) ?_
      refine bind_eq (within_eq hn F[k] (by omega)) ?_
      rw [wrap_up (show k ≤ 281474976710656 by omega), wrap_add (show k ≤ 281474976710656 by omega) (show F[k].inn ≤ 281474976710656 by omega)]
      have next := ih (k + 1) (by omega) (by omega) s0 s2 s6 s7 s8 s9 s10 s11 s12 s13 s14 s15 s16 s17 s18 s19 s20 s21
      cases hz : (((F[k].inn : Nat) : Int) == 0) with
      | true => exact next
      | false =>
        simp only [cond_false]
        refine cond_no ?_ next
        by_cases h4 : t ≤ k + F[k].inn
        · have h5 : ¬ i ≤ k := fun h => hno k F[k] hlt (List.getElem?_eq_getElem hkl) h4 h
          rw [decide_eq_true (show (t : Int) ≤ ((k + F[k].inn : Nat) : Int) by omega), decide_eq_false (show ¬ (i : Int) ≤ (k : Int) by omega), decide_eq_false (show ¬ (i : Int) > ((k + F[k].inn : Nat) : Int) by omega)]
          rfl
        · rw [decide_eq_false (show ¬ (t : Int) ≤ ((k + F[k].inn : Nat) : Int) by omega)]
          rfl
    · refine cond_no (decide_eq_false (by omega)) rfl

section
variable {n : Nat} (hn : 100000 < n) {P : List (List S)} (hP : cntP P ≤ 6000) (hl : P.length ≤ 4)
include hn hP hl

theorem cntP_mem : ∀ {P : List (List S)} {i : Nat} {x : Pl} {th k : Nat}, (plP P th k).1[i]? = some x → Nest (plP P th k).1 → x.s.inn ≤ (plP P th k).1.length := by
  intro P i x th k h hN
  obtain ⟨hi, hx⟩ := List.getElem?_eq_some_iff.1 h
  have hd := Nest_drop _ i hN
  rw [List.drop_eq_getElem_cons hi, hx] at hd
  have := hd.1
  rw [List.length_drop] at this
  omega

theorem out_loop {e : Int} (he : e = 0 → CQ n (plP P 0 0).1 0) (d : List T) : ∀ (m i : Nat), i ≤ cntP P → cntP P - i < m →
    l_suturelaw9_JumpsOut_6 n m (e, encSL (flP P), (thP P 0).map iN, encSL (flP P), ((cntP P : Nat) : Int), (i : Int), d, encP P) = some (.inr (d, encP P)) := by
  obtain ⟨p1, p2, p3⟩ := plP_len P 0 0
  have hrow := plP_row P 0 0
  have hs := plP_s P 0 0
  have hth := plP_th P 0 0
  have harl := arP P 0 0
  have hall := all_eq hn P hP hl d
  generalize hX : (plP P 0 0).1 = X at *
  generalize (plP P 0 0).2 = k2 at *
  have hal : ∀ x ∈ X, x.ar.length ≤ 100000 := fun x hx => by have := harl x hx; have := hrow.high x hx; omega
  have hFl : (flP P).length = X.length := by rw [← hs, List.length_map]
  have htl : (thP P 0).length = X.length := by rw [← hth, List.length_map]
  have hFs : ∀ (k : Nat) (x : Pl), X[k]? = some x → (flP P)[k]? = some x.s := by
    intro k x hx
    rw [← hs, List.getElem?_map, hx]; rfl
  have hinn : ∀ x ∈ X, x.s.inn ≤ 6000 := by
    intro x hx
    obtain ⟨i, hi, rfl⟩ := List.getElem_of_mem hx
    have hd := Nest_drop _ i hrow.nest
    rw [List.drop_eq_getElem_cons hi] at hd
    have := hd.1
    rw [List.length_drop] at this
    omega
  have hFin : ∀ x ∈ flP P, x.inn ≤ 6000 := by
    intro x hx
    rw [← hs] at hx
    obtain ⟨y, hy, rfl⟩ := List.mem_map.1 hx
    exact hinn y hy
  intro m
  induction m with
  | zero => intro i h1 h2; omega
  | succ m ih =>
    intro i h1 h2
    rw [l_suturelaw9_JumpsOut_6]
    unfold l_suturelaw9_JumpsOut_6_B
    simp only
    by_cases hlt : i < cntP P
    · have hiX : i < X.length := by omega
      have hiF : i < (flP P).length := by omega
      refine cond_yes (decide_eq_true (by omega)) ?_
      refine bind_eq (idx_Sat hiF) ?_
      obtain ⟨r, hr1, hr2⟩ := target_c hn hrow (by omega) (by omega) hal hiX
      have htar : m_jumps_Target n d (encP P) (i : Int) = some r := by
        unfold m_jumps_Target
        exact bind_eq hall (bind_eq hr1 rfl)
      refine bind_eq htar ?_
      have hFi : (flP P)[i] = X[i].s := by
        have := hFs i X[i] (List.getElem?_eq_getElem hiX)
        rw [List.getElem?_eq_getElem hiF] at this
        exact Option.some.inj this
      obtain ⟨g0, g1⟩ := getS (flP P)[i]
      simp only [g0, g1]
      rw [wrap_up (show i ≤ 281474976710656 by omega)]
      have next := ih (i + 1) (by omega) (by omega)
      rcases hr2 with rfl | ⟨t, a, y, b, rfl, hit, ha, hy, hk9, hk10, hnm, hthy, hlast, hmem⟩
      · -- no target
        have hno : (bif ((e : Int) == 0) then (!((((flP P)[i].kind : Int) == 9) == (decide ((-1 : Int) ≥ 0)))) else false) = false := by
          cases he0 : ((e : Int) == 0) with
          | false => rfl
          | true =>
            have he0 := beq_iff_eq.1 he0
            have hk : ¬ (flP P)[i].kind = 9 := by
              intro hk
              obtain ⟨r, h1, h2⟩ := he he0 i X[i] (by omega) (List.getElem?_eq_getElem hiX) (by rw [← hFi]; exact hk)
              rw [hr1] at h1
              simp only [Option.some.injEq] at h1
              omega
            rw [beq_eq_false_iff_ne.2 hk]
            rfl
        refine cond_no ?_ (cond_yes rfl next)
        rw [hno]
        cases (((flP P)[i].kind : Int) == 9) <;> rfl
      · rw [List.getElem?_eq_getElem hiX] at ha
        simp only [Option.some.injEq] at ha
        subst ha
        obtain ⟨htX, hyX⟩ := List.getElem?_eq_some_iff.1 hy
        have htF : t < (flP P).length := by omega
        have hFt : (flP P)[t] = y.s := by
          have := hFs t y hy
          rw [List.getElem?_eq_getElem htF] at this
          exact Option.some.inj this
        have hge : decide ((t : Int) ≥ 0) = true := decide_eq_true (by omega)
        have hk : (((flP P)[i].kind : Int) == 9) = true := by rw [hFi]; exact beq_iff_eq.2 hk9
        refine cond_no ?_ (cond_no (decide_eq_false (by omega)) ?_)
        · rw [hge, hk]
          cases ((e : Int) == 0) <;> rfl
        have hli : decide ((t : Int) ≤ (i : Int)) = false := decide_eq_false (by omega)
        have hlen : decide ((t : Int) ≥ ((List.length (encSL (flP P)) : Nat) : Int)) = false := decide_eq_false (by rw [encSL_len]; omega)
        obtain ⟨u0, u1⟩ := getS (flP P)[t]
        simp only [hli, hlen, cond_false, Bool.not_false, idx_Sat htF, Option.bind_some, u0, u1]
        have hk10' : (((flP P)[t].kind : Int) != 10) = false := by rw [hFt, hk10]; rfl
        simp only [hk10', cond_false, Bool.not_false, idx_Sat htF, Option.bind_some, u0, u1]
        have hnm' : (ByteArray.toList (flP P)[t].name == ByteArray.toList (flP P)[i].name) = true := by rw [hFt, hFi]; exact hnm
        have hti : t < (thP P 0).length := by omega
        have hii : i < (thP P 0).length := by omega
        simp only [hnm', Bool.not_true, cond_false, Bool.not_false, idx_N hti, idx_N hii, Option.bind_some]
        have e1 : (thP P 0)[t] = y.th := by
          have h := congrArg (fun l => l[t]?) hth
          simp only [List.getElem?_map, hy, Option.map_some, List.getElem?_eq_getElem hti, Option.some.injEq] at h
          exact h.symm
        have e2 : (thP P 0)[i] = X[i].th := by
          have h := congrArg (fun l => l[i]?) hth
          simp only [List.getElem?_map, List.getElem?_eq_getElem hiX, Option.map_some, List.getElem?_eq_getElem hii, Option.some.injEq] at h
          exact h.symm
        have hthe : ((((iN (thP P 0)[t]).cell 0).int : Int) != ((iN (thP P 0)[i]).cell 0).int) = false := by
          rw [e1, e2, hthy]
          exact bne_self_eq_false _
        simp only [hthe, cond_false]
        refine bind_eq (inner_loop hn (by omega) hFin htF hiF ?_ hit n 0 (by omega) (by omega) _ _ _ _ _ _ _ _ _ _ _ _ _ _ _ _ _ _) ?_
        · intro k x hkt hx htk hik
          have hkX : k < X.length := by omega
          have hx' := hFs k X[k] (List.getElem?_eq_getElem hkX)
          rw [hx] at hx'
          simp only [Option.some.injEq] at hx'
          subst hx'
          exact no_block hrow (List.getElem?_eq_getElem hiX) (List.getElem?_eq_getElem hkX) hy hik hkt htk hlast hmem
        · simp only [Sum.elim_inr]
          rw [wrap_up (show i ≤ 281474976710656 by omega)]
          exact next
    · exact cond_no (decide_eq_false (by omega)) rfl
end

/-- JumpsOut: THE PLAIN LAW. -/
theorem jumpsOut_law (z : List Int) (hz : ∀ x ∈ z, (Lit.int .i64 x).wf = true) (lz : z.length ≤ 17592186044416) : ∃ n, m_suturelaw9_JumpsOut n (ints .i64 z) = some true := by
  refine ⟨(11 * z.length + 110000) + 200, ?_⟩
  have hkn := known_ok (11 * z.length + 110000)
  generalize hN : (11 * z.length + 110000) + 200 = n at hkn ⊢
  have hn : 100000 < n := by omega
  obtain ⟨r0, hr1, P, hr2, hl, hP⟩ := deep_c (n := n) lz (by omega)
  obtain ⟨d, p⟩ := r0
  simp only at hr2
  subst hr2
  unfold m_suturelaw9_JumpsOut
  refine bind_eq hr1 ?_
  simp only
  obtain ⟨p1, p2, p3⟩ := plP_len P 0 0
  have hrow := plP_row P 0 0
  have hal : ∀ x ∈ (plP P 0 0).1, x.ar.length ≤ 100000 := fun x hx => by have := arP P 0 0 x hx; have := hrow.high x hx; omega
  obtain ⟨x, hx1, hx2⟩ := check_loop (n := n) hn hrow (by omega) (by omega) hal n 0 (by omega) (by omega) d (encP P)
  have hck : ∃ r : (Nat × Nat) × Int, m_jumps_Check n d (encP P) = some r ∧ (r.2 = 0 → CQ n (plP P 0 0).1 0) := by
    unfold m_jumps_Check
    rw [all_eq hn P hP hl d]
    simp only [Option.bind_some, List.length_map]
    rw [show ((0 : Int)) = ((0 : Nat) : Int) from rfl, hx1]
    cases x with
    | inl q => exact ⟨_, rfl, fun h => by simp only at hx2 h; omega⟩
    | inr q => exact ⟨_, rfl, fun _ => hx2⟩
  obtain ⟨r1, hc1, hc2⟩ := hck
  refine bind_eq hc1 ?_
  refine bind_eq (list_eq hn P hP hl d) ?_
  refine bind_eq (threads_eq hn P hP hl d) ?_
  have hFl : (flP P).length = cntP P := by rw [← plP_s P 0 0, List.length_map, p1]
  rw [encSL_len, hFl]
  refine bind_eq (out_loop hn hP hl hc2 d n 0 (by omega) (by omega)) ?_
  simp only [Sum.elim_inr]
  exact bind_eq hkn rfl
end Go.Proofs.Ytgpokdaacbjimab.W
