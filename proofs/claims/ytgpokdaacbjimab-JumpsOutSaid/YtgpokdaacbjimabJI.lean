/- Chapter 9, plain: where a goto goes, and that no block is in the way. -/
import Derived.Test.YtgpokdaacbjimabJH
import Derived.Test.YtgpokdaacbjimabJK
namespace Go.Proofs.Ytgpokdaacbjimab.W
open Go Go.Eng
set_option linter.unusedVariables false
set_option linter.unusedSimpArgs false
set_option linter.unusedSectionVars false

theorem getPl (x : Pl) : ((encPl x).cell 0).int = x.s.kind ∧ ((encPl x).cell 1).str = x.s.name ∧ ((encPl x).cell 11).int = (x.th : Int) ∧ ((encPl x).cell 12).lst = x.ar.map iN := by
  obtain ⟨⟨kind, name, other, num, ek, en, es, eof, body, els, re, im⟩, th, ar, c⟩ := x
  exact ⟨rfl, rfl, rfl, rfl⟩

theorem idx_Pl {X : List Pl} {i : Nat} (h : i < X.length) : idx true [.int .i64, .str, .str, .int .i64, .int .i64, .int .i64, .str, .list, .list, .list, .cplx .f64, .int .i64, .list] (X.map encPl) (i : Int) = some (encPl X[i]) := by
  have h0 : decide ((0 : Int) ≤ (i : Int)) = true := by simp
  simp only [idx, cond_true, h0, Int.toNat_natCast, List.getElem?_map, List.getElem?_eq_getElem h, Option.map_some]
  obtain ⟨⟨kind, name, other, num, ek, en, es, eof, body, els, re, im⟩, th, ar, c⟩ := X[i]
  rfl
theorem idx_no {sh : List _} {l : List T} {i : Int} : Comes (idx false sh l i) fun _ => True := ⟨_, rfl, trivial⟩

theorem idx_N {l : List Nat} {i : Nat} (h : i < l.length) : idx true [.int .i64] (l.map iN) (i : Int) = some (iN l[i]) := by
  have h0 : decide ((0 : Int) ≤ (i : Int)) = true := by simp
  simp only [idx, cond_true, h0, Int.toNat_natCast, List.getElem?_map, List.getElem?_eq_getElem h, Option.map_some]
  rfl

theorem sized_Pl (X : List Pl) : sized 13 (X.map encPl) = true := by
  unfold sized
  rw [List.all_eq_true]
  intro y hy
  obtain ⟨⟨⟨kind, name, other, num, ek, en, es, eof, body, els, re, im⟩, th, ar, c⟩, _, rfl⟩ := List.mem_map.1 hy
  rfl

theorem contains_c {n : Nat} (l : List Nat) (hl : l.length ≤ 100000) (hn : 100000 < n) (b : Nat) : Comes (m_slices_Contains___int_int_ n (l.map iN) (b : Int)) fun r => r = true → b ∈ l := by
  have loop : ∀ (m i : Nat), i ≤ l.length → l.length - i < m → Comes (l_slices_Index___int_int__2 n m (l.map iN, (b : Int), ((l.length : Nat) : Int), (i : Int))) fun r => match r with
      | .inl v => 0 ≤ v → b ∈ l
      | .inr _ => True := by
    intro m
    induction m with
    | zero => intro i h1 h2; omega
    | succ m ih =>
      intro i h1 h2
      rw [l_slices_Index___int_int__2]
      unfold l_slices_Index___int_int__2_B
      simp only
      refine comes_cond (fun hc => ?_) (fun _ => comes_some trivial)
      have hc := of_decide_eq_true hc
      have hlt : i < l.length := by omega
      rw [idx_N hlt]
      simp only [Option.bind_some]
      refine comes_cond (fun he => ?_) (fun _ => ?_)
      · have he := beq_iff_eq.1 he
        have e : ((iN l[i]).cell 0).int = (l[i] : Int) := rfl
        rw [e] at he
        refine comes_some (fun _ => ?_)
        have : b = l[i] := by omega
        rw [this]
        exact List.getElem_mem hlt
      · rw [wrap_up (show i ≤ 281474976710656 by omega)]
        exact ih (i + 1) (by omega) (by omega)
  unfold m_slices_Contains___int_int_ m_slices_Index___int_int_
  rw [List.length_map]
  refine comes_bind (P := fun r => 0 ≤ r → b ∈ l) ?_ fun r hr => comes_some fun h => hr (of_decide_eq_true h)
  refine comes_bind (loop n 0 (by omega) (by omega)) fun x hx => ?_
  cases x with
  | inl v => exact comes_some hx
  | inr v => exact comes_some (fun h => by simp at h)

/-- What a goto's target comes to. -/
def TQ (X : List Pl) (i : Nat) (r : Int) : Prop := r = -1 ∨ ∃ (t : Nat) (a y : Pl) (b : Nat), r = (t : Int) ∧ i < t ∧ X[i]? = some a ∧ X[t]? = some y ∧ a.s.kind = 9 ∧ y.s.kind = 10 ∧ (ByteArray.toList y.s.name == ByteArray.toList a.s.name) = true ∧ y.th = a.th ∧ y.ar.getLast? = some b ∧ b ∈ a.ar

theorem arL (th : Nat) : ∀ (l : List S) (ar : List Nat) (k : Nat), ar.length ≤ k → ∀ x ∈ (plL th l ar k).1, x.ar.length ≤ x.c
  | [], ar, k, h, x, hx => by simp [plL] at hx
  | .mk kind name other num ek en es eof body els re im :: r, ar, k, h, x, hx => by
    obtain ⟨l1, l2, l3⟩ := plL_len th body (ar ++ [k]) (k + 1)
    obtain ⟨m1, m2, m3⟩ := plL_len th els (ar ++ [(plL th body (ar ++ [k]) (k + 1)).2]) ((plL th body (ar ++ [k]) (k + 1)).2 + 1)
    simp only [plL, plS, List.mem_append, List.mem_cons] at hx
    rcases hx with (rfl | hx | hx) | hx
    · exact h
    · exact arL th body _ _ (by simp; omega) x hx
    · exact arL th els _ _ (by simp; omega) x hx
    · exact arL th r _ _ (by omega) x hx
theorem arP : ∀ (P : List (List S)) (th k : Nat), ∀ x ∈ (plP P th k).1, x.ar.length ≤ x.c
  | [], th, k, x, hx => by simp [plP] at hx
  | l :: r, th, k, x, hx => by
    simp only [plP, List.mem_append] at hx
    rcases hx with hx | hx
    · exact arL th l _ _ (by simp) x hx
    · exact arP r _ _ x hx

section
variable {n : Nat} (hn : 100000 < n) {X : List Pl} {k0 k2 : Nat} (hX : Row X k0 k2) (hlen : X.length ≤ 6000) (hk2 : k2 ≤ 20000)
include hn hX hlen hk2

theorem target_c (hal : ∀ x ∈ X, x.ar.length ≤ 100000) {i : Nat} (hi : i < X.length) : Comes (m_jumps_target n (X.map encPl) (i : Int)) (TQ X i) := by
  have loop : ∀ (m k : Nat), i < k → k ≤ X.length → X.length - k < m → ∀ s2 s4 s5 s6 s7 s8 s9 s10 s11 s12, Comes (l_jumps_target_5 n m (X.map encPl, (k : Int), s2, X[i].s.name, s4, s5, s6, s7, s8, s9, s10, s11, s12, (X[i].th : Int), X[i].ar.map iN)) fun r => match r with
      | .inl p => X[i].s.kind = 9 → TQ X i p.1
      | .inr _ => True := by
    intro m
    induction m with
    | zero => intro k h0 h1 h2; omega
    | succ m ih =>
      intro k h0 h1 h2 s2 s4 s5 s6 s7 s8 s9 s10 s11 s12
      rw [l_jumps_target_5]
      unfold l_jumps_target_5_B
      simp only [List.length_map]
      by_cases hlt : k < X.length
      · have hd : decide ((k : Int) < ((X.length : Nat) : Int)) = true := decide_eq_true (by omega)
        simp only [hd, idx_Pl hlt, Option.bind_some, cond_true]
        obtain ⟨g0, g1, g2, g3⟩ := getPl X[k]
        simp only [g0, g1, g2, g3, List.length_map]
        refine comes_cond (fun hth => ?_) (fun _ => comes_some trivial)
        have hth := beq_iff_eq.1 hth
        have hmem : X[k] ∈ X := List.getElem_mem hlt
        have hne := hX.some_ _ hmem
        have hl0 : 0 < X[k].ar.length := List.length_pos_iff.2 hne
        have hal' := hal _ hmem
        rw [wrap_id (show -9223372036854775808 ≤ ((X[k].ar.length : Nat) : Int) - 1 by omega) (by omega), show ((X[k].ar.length : Nat) : Int) - 1 = ((X[k].ar.length - 1 : Nat) : Int) by omega]
        rw [wrap_up (show k ≤ 281474976710656 by omega)]
        have next := ih (k + 1) (by omega) (by omega) (by omega) s2 s4 s5 s6 s7 s8 s9 s10 s11 s12
        cases hk : (bif ((X[k].s.kind : Int) == 10) then (ByteArray.toList X[k].s.name == ByteArray.toList X[i].s.name) else false) with
        | false =>
          refine comes_bind idx_no fun y4 _ => ?_
          simp only [cond_false, Option.bind_some]
          exact next
        | true =>
          rw [idx_N (show X[k].ar.length - 1 < X[k].ar.length by omega)]
          simp only [Option.bind_some, cond_true]
          refine comes_bind (contains_c X[i].ar (hal _ (List.getElem_mem hi)) hn X[k].ar[X[k].ar.length - 1]) fun r5 hr5 => ?_
          refine comes_cond (fun h5 => ?_) (fun _ => next)
          have hb := hr5 h5
          have hkind : X[k].s.kind = 10 := by
            cases hk1 : ((X[k].s.kind : Int) == 10) with
            | false => rw [hk1] at hk; simp at hk
            | true => exact beq_iff_eq.1 hk1
          have hname : (ByteArray.toList X[k].s.name == ByteArray.toList X[i].s.name) = true := by
            rw [beq_iff_eq.2 hkind] at hk; simpa using hk
          refine comes_some (fun hg => .inr ⟨k, X[i], X[k], X[k].ar[X[k].ar.length - 1], rfl, h0, List.getElem?_eq_getElem hi, List.getElem?_eq_getElem hlt, hg, hkind, hname, by omega, ?_, hb⟩)
          rw [List.getLast?_eq_getElem?, List.getElem?_eq_getElem]
      · have hd : decide ((k : Int) < ((X.length : Nat) : Int)) = false := decide_eq_false (by omega)
        simp only [hd, cond_false]
        exact comes_bind idx_no fun y4 _ => comes_some trivial
  unfold m_jumps_target
  rw [List.length_map, decide_eq_false (show ¬ (i : Int) < 0 by omega), decide_eq_false (show ¬ (i : Int) ≥ ((X.length : Nat) : Int) by omega)]
  simp only [cond_false, Bool.not_false, idx_Pl hi, Option.bind_some]
  obtain ⟨g0, g1, g2, g3⟩ := getPl X[i]
  simp only [g0, g1, g2, g3]
  refine comes_cond (fun _ => comes_some (.inl rfl)) (fun hk => ?_)
  have hk : X[i].s.kind = 9 := by simpa using hk
  rw [wrap_up (show i ≤ 281474976710656 by omega)]
  refine comes_bind (loop n (i + 1) (by omega) (by omega) (by omega) _ _ _ _ _ _ _ _ _ _) fun x hx => ?_
  cases x with
  | inl p => exact comes_some (hx hk)
  | inr p => exact comes_some (.inl rfl)

theorem twice_c {i : Nat} (hi : i < X.length) : Comes (m_jumps_twice n (X.map encPl) (i : Int)) fun _ => True := by
  have loop : ∀ (Y : List Pl), Y.length ≤ 6000 → ∀ (m k : Nat), k ≤ Y.length → Y.length - k < m → ∀ s3 s4 s5 s6 s7 s8 s9 s10 s11 s12 s13 s14 s15, Comes (l_slices_IndexFunc___jumps_placed_jumps_placed__2 n m (Y.map encPl, ((Y.length : Nat) : Int), (k : Int), s3, s4, s5, s6, s7, s8, s9, s10, s11, s12, s13, s14, s15)) fun _ => True := by
    intro Y hY m
    induction m with
    | zero => intro k h1 h2; omega
    | succ m ih =>
      intro k h1 h2 s3 s4 s5 s6 s7 s8 s9 s10 s11 s12 s13 s14 s15
      rw [l_slices_IndexFunc___jumps_placed_jumps_placed__2]
      unfold l_slices_IndexFunc___jumps_placed_jumps_placed__2_B
      simp only
      refine comes_cond (fun hc => ?_) (fun _ => comes_some trivial)
      have hc := of_decide_eq_true hc
      rw [idx_Pl (show k < Y.length by omega)]
      simp only [Option.bind_some, m_jumps_twice_1]
      refine comes_cond (fun _ => comes_some trivial) (fun _ => ?_)
      rw [wrap_up (show k ≤ 281474976710656 by omega)]
      exact ih (k + 1) (by omega) (by omega) _ _ _ _ _ _ _ _ _ _ _ _ _
  unfold m_jumps_twice
  rw [idx_Pl hi]
  simp only [Option.bind_some]
  refine comes_must ?_ ?_
  · rw [sized_Pl, List.length_map]
    simp only [Bool.and_true, Bool.and_eq_true, decide_eq_true_eq]
    omega
  refine comes_bind (P := fun _ => True) (comes_cond (fun _ => ?_) (fun _ => comes_some trivial)) fun r _ => comes_some trivial
  have e : List.drop (Int.toNat 0) (List.take (Int.toNat (i : Int)) (X.map encPl)) = (X.take i).map encPl := by
    rw [Int.toNat_natCast, show Int.toNat (0 : Int) = 0 from rfl, List.drop_zero, List.map_take]
  rw [e]
  unfold m_slices_ContainsFunc___jumps_placed_jumps_placed_ m_slices_IndexFunc___jumps_placed_jumps_placed_
  rw [List.length_map]
  refine comes_bind (P := fun _ => True) ?_ fun r _ => comes_some trivial
  refine comes_bind (loop (X.take i) (by rw [List.length_take]; omega) n 0 (by omega) (by rw [List.length_take]; omega) _ _ _ _ _ _ _ _ _ _ _ _ _) fun x _ => ?_
  cases x with
  | inl v => exact comes_some trivial
  | inr v => exact comes_some trivial

/-- Where all jumps are right, each goto has a target. -/
def CQ (n : Nat) (X : List Pl) (j : Nat) : Prop := ∀ i x, j ≤ i → X[i]? = some x → x.s.kind = 9 → ∃ r, m_jumps_target n (X.map encPl) (i : Int) = some r ∧ 0 ≤ r

theorem check_loop (hal : ∀ x ∈ X, x.ar.length ≤ 100000) : ∀ (m k : Nat), k ≤ X.length → X.length - k < m → ∀ s4 s5, Comes (l_jumps_Check_3 n m (X.map encPl, X.map encPl, ((X.length : Nat) : Int), (k : Int), s4, s5)) fun r => match r with
      | .inl p => p.2.1 = 4
      | .inr _ => CQ n X k := by
  intro m
  induction m with
  | zero => intro k h1 h2; omega
  | succ m ih =>
    intro k h1 h2 s4 s5
    rw [l_jumps_Check_3]
    unfold l_jumps_Check_3_B
    simp only
    refine comes_cond (fun hc => ?_) (fun hc => ?_)
    · have hc := of_decide_eq_true hc
      have hlt : k < X.length := by omega
      rw [idx_Pl hlt]
      simp only [Option.bind_some]
      obtain ⟨g0, g1, g2, g3⟩ := getPl X[k]
      simp only [g0]
      refine comes_bind (twice_c hn hX hlen hk2 hlt) fun r2 _ => ?_
      obtain ⟨tr, ht1, ht2⟩ := target_c hn hX hlen hk2 hal hlt
      have hbr : (bif (!r2 && ((X[k].s.kind : Int) == 9)) then m_jumps_target n (X.map encPl) (k : Int) else some 0) = some (bif (!r2 && ((X[k].s.kind : Int) == 9)) then tr else 0) := by
        cases (!r2 && ((X[k].s.kind : Int) == 9)) with
        | true => exact ht1
        | false => rfl
      rw [hbr]
      simp only [Option.bind_some]
      refine comes_cond (fun _ => comes_some rfl) (fun hno => ?_)
      rw [wrap_up (show k ≤ 281474976710656 by omega)]
      refine comes_mono (ih (k + 1) (by omega) (by omega) s4 s5) fun r hr => ?_
      cases r with
      | inl p => exact hr
      | inr p =>
        intro i x hki hx hkind
        by_cases he : i = k
        · subst he
          rw [List.getElem?_eq_getElem hlt] at hx
          simp only [Option.some.injEq] at hx
          subst hx
          refine ⟨tr, ht1, ?_⟩
          rw [beq_iff_eq.2 hkind] at hno
          cases r2 with
          | true => simp at hno
          | false =>
            simp only [Bool.not_false, Bool.and_self, cond_true, cond_false] at hno
            have := of_decide_eq_false hno
            omega
        · exact hr i x (by omega) hx hkind
    · have hc := of_decide_eq_false hc
      refine comes_some (fun i x hki hx hkind => ?_)
      have := (List.getElem?_eq_some_iff.1 hx).1
      omega
end

/-! how many statements stand in one -/

def IV (g : Int → ByteArray → ByteArray → Int → Int → Int → ByteArray → List T → List T → List T → Nat × Nat → Option Int) (body els : List S) : Prop :=
  ∀ kind nm ot num ek en es eof at_, g kind nm ot num ek en es eof (encSL body) (encSL els) at_ = some ((cntL body + cntL els : Nat) : Int)

theorem within_c {n : Nat} (hn : 100000 < n) : ∀ (m : Nat) (body els : List S), cntL body + cntL els < m → cntL body + cntL els ≤ 50000 → IV (unB_suturelaw9_within n m).suturelaw9_within body els := by
  intro m
  induction m with
  | zero => intro body els h; omega
  | succ m ih0 =>
    intro body els hm hc kind nm ot num ek en es eof at_
    have loop3 : ∀ (k : Nat) (r pre : List S) (c : Nat), r.length < k → cntL r ≤ m → c + cntL r ≤ 100000 → cntL r ≤ 50000 → pre.length + cntL r ≤ 100000 → ∀ s4 s5 s6 s7 s8 s9 s10 s11 s12 s13 s14,
        l_suturelaw9_within_3 (unB_suturelaw9_within n m) n k ((c : Int), encSL (pre ++ r), (((pre ++ r).length : Nat) : Int), (pre.length : Int), s4, s5, s6, s7, s8, s9, s10, s11, s12, s13, s14) = some (((c + cntL r : Nat) : Int), s4, s5, s6, s7, s8, s9, s10, s11, s12, s13, s14) := by
      intro k
      induction k with
      | zero => intro r pre c h; omega
      | succ k ih =>
        intro r pre c hk hK hcc hr hp s4 s5 s6 s7 s8 s9 s10 s11 s12 s13 s14
        rw [l_suturelaw9_within_3]
        unfold l_suturelaw9_within_3_B
        simp only
        cases r with
        | nil =>
          refine cond_no (decide_eq_false (by simp)) ?_
          simp only [cntL, Nat.add_zero]
        | cons s r =>
          obtain ⟨kind, name, other, num, ek, en, es, eof, body, els, re, im⟩ := s
          simp only [cntL, S.cnt, List.length_cons] at hk hK hcc hr hp
          refine cond_yes (decide_eq_true (by rw [List.length_append, List.length_cons]; omega)) ?_
          refine bind_eq (idx_S pre _ _ _ _ _ _ _ _ _ _ _ _ r) ?_
          refine bind_eq (ih0 body els (by omega) (by omega) kind name other num ek en es eof (re, im)) ?_
          rw [wrap_up (show c ≤ 281474976710656 by omega), wrap_add (show c + 1 ≤ 281474976710656 by omega) (by omega), wrap_up (show pre.length ≤ 281474976710656 by omega)]
          have e : pre ++ S.mk kind name other num ek en es eof body els re im :: r = (pre ++ [S.mk kind name other num ek en es eof body els re im]) ++ r := by simp
          have el : ((pre.length + 1 : Nat) : Int) = (((pre ++ [S.mk kind name other num ek en es eof body els re im]).length : Nat) : Int) := by simp
          rw [e, el]
          refine (ih r _ _ (by omega) (by omega) (by omega) (by omega) (by simp; omega) _ _ _ _ _ _ _ _ _ _ _).trans ?_
          simp only [cntL, S.cnt]
          rw [show c + 1 + (cntL body + cntL els) + cntL r = c + (1 + cntL body + cntL els + cntL r) by omega]
    have loop8 : ∀ (k : Nat) (r pre : List S) (c : Nat), r.length < k → cntL r ≤ m → c + cntL r ≤ 100000 → cntL r ≤ 50000 → pre.length + cntL r ≤ 100000 → ∀ s4 s5 s6 s7 s8 s9 s10 s11 s12 s13 s14,
        l_suturelaw9_within_8 (unB_suturelaw9_within n m) n k ((c : Int), encSL (pre ++ r), (((pre ++ r).length : Nat) : Int), (pre.length : Int), s4, s5, s6, s7, s8, s9, s10, s11, s12, s13, s14) = some (((c + cntL r : Nat) : Int), s4, s5, s6, s7, s8, s9, s10, s11, s12, s13, s14) := by
      intro k
      induction k with
      | zero => intro r pre c h; omega
      | succ k ih =>
        intro r pre c hk hK hcc hr hp s4 s5 s6 s7 s8 s9 s10 s11 s12 s13 s14
        rw [l_suturelaw9_within_8]
        unfold l_suturelaw9_within_8_B
        simp only
        cases r with
        | nil =>
          refine cond_no (decide_eq_false (by simp)) ?_
          simp only [cntL, Nat.add_zero]
        | cons s r =>
          obtain ⟨kind, name, other, num, ek, en, es, eof, body, els, re, im⟩ := s
          simp only [cntL, S.cnt, List.length_cons] at hk hK hcc hr hp
          refine cond_yes (decide_eq_true (by rw [List.length_append, List.length_cons]; omega)) ?_
          refine bind_eq (idx_S pre _ _ _ _ _ _ _ _ _ _ _ _ r) ?_
          refine bind_eq (ih0 body els (by omega) (by omega) kind name other num ek en es eof (re, im)) ?_
          rw [wrap_up (show c ≤ 281474976710656 by omega), wrap_add (show c + 1 ≤ 281474976710656 by omega) (by omega), wrap_up (show pre.length ≤ 281474976710656 by omega)]
          have e : pre ++ S.mk kind name other num ek en es eof body els re im :: r = (pre ++ [S.mk kind name other num ek en es eof body els re im]) ++ r := by simp
          have el : ((pre.length + 1 : Nat) : Int) = (((pre ++ [S.mk kind name other num ek en es eof body els re im]).length : Nat) : Int) := by simp
          rw [e, el]
          refine (ih r _ _ (by omega) (by omega) (by omega) (by omega) (by simp; omega) _ _ _ _ _ _ _ _ _ _ _).trans ?_
          simp only [cntL, S.cnt]
          rw [show c + 1 + (cntL body + cntL els) + cntL r = c + (1 + cntL body + cntL els + cntL r) by omega]
    show f_suturelaw9_within (unB_suturelaw9_within n m) n kind nm ot num ek en es eof (encSL body) (encSL els) at_ = _
    unfold f_suturelaw9_within
    rw [encSL_len]
    have hl1 := len_cntL body
    have hl2 := len_cntL els
    refine bind_eq (loop3 n body [] 0 (by omega) (by omega) (by omega) (by omega) (by simp; omega) _ _ _ _ _ _ _ _ _ _ _) ?_
    simp only
    rw [encSL_len]
    refine bind_eq (loop8 n els [] (0 + cntL body) (by omega) (by omega) (by omega) (by omega) (by simp; omega) _ _ _ _ _ _ _ _ _ _ _) ?_
    simp only
    rw [show 0 + cntL body + cntL els = cntL body + cntL els by omega]
end Go.Proofs.Ytgpokdaacbjimab.W
