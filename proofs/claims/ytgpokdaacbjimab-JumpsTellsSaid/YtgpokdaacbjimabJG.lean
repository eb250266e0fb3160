/- Chapter 9, plain: statements in order, with their threads and the blocks around them: what the printed functions come to. -/
import Derived.Test.YtgpokdaacbjimabJF
namespace Go.Proofs.Ytgpokdaacbjimab.W
open Go Go.Eng
set_option linter.unusedVariables false
set_option linter.unusedSimpArgs false
set_option linter.unusedSectionVars false

theorem bind_eq {A R : Type} {m : Option A} {f : A → Option R} {a : A} {r : Option R} (h : m = some a) (k : f a = r) : Option.bind m f = r := by rw [h]; exact k
theorem must_is {R : Type} {c φ : Bool} {x r : Option R} (h : φ = true) (k : x = r) : must c φ x = r := by rw [must_eq h]; exact k
theorem cond_yes {R : Type} {c : Bool} {a b r : R} (h : c = true) (k : a = r) : (bif c then a else b) = r := by rw [h]; exact k
theorem cond_no {R : Type} {c : Bool} {a b r : R} (h : c = false) (k : b = r) : (bif c then a else b) = r := by rw [h]; exact k

/-- A statement in its place: its thread, the blocks around it, and which block's number is the next one there. -/
structure Pl where
  s : S
  th : Nat
  ar : List Nat
  c : Nat
def iN (k : Nat) : T := .sc (.int .i64 (k : Int))
def encPl (x : Pl) : T := match x.s with
  | .mk kind name other num ek en es eof body els re im => T.agg [(T.sc (.int .i64 kind)), (T.sc (.string name)), (T.sc (.string other)), (T.sc (.int .i64 num)), (T.sc (.int .i64 ek)), (T.sc (.int .i64 en)), (T.sc (.string es)), (T.list eof), (T.list (encSLJ body)), (T.list (encSLJ els)), (T.sc (.complex .f64 re im)), (T.sc (.int .i64 (x.th : Int))), (T.list (x.ar.map iN))]

mutual
def plS (th : Nat) : S → List Nat → Nat → List Pl × Nat
  | .mk kind name other num ek en es eof body els re im, ar, k =>
    (⟨.mk kind name other num ek en es eof body els re im, th, ar, k⟩ :: ((plL th body (ar ++ [k]) (k + 1)).1 ++ (plL th els (ar ++ [(plL th body (ar ++ [k]) (k + 1)).2]) ((plL th body (ar ++ [k]) (k + 1)).2 + 1)).1),
      (plL th els (ar ++ [(plL th body (ar ++ [k]) (k + 1)).2]) ((plL th body (ar ++ [k]) (k + 1)).2 + 1)).2)
def plL (th : Nat) : List S → List Nat → Nat → List Pl × Nat
  | [], ar, k => ([], k)
  | s :: r, ar, k => ((plS th s ar k).1 ++ (plL th r ar (plS th s ar k).2).1, (plL th r ar (plS th s ar k).2).2)
end
def plP : List (List S) → Nat → Nat → List Pl × Nat
  | [], th, k => ([], k)
  | l :: r, th, k => ((plL th l [k] (k + 1)).1 ++ (plP r (th + 1) (plL th l [k] (k + 1)).2).1, (plP r (th + 1) (plL th l [k] (k + 1)).2).2)

mutual
theorem plS_len (th : Nat) : ∀ (s : S) (ar : List Nat) (k : Nat), (plS th s ar k).1.length = s.cnt ∧ k ≤ (plS th s ar k).2 ∧ (plS th s ar k).2 ≤ k + 2 * s.cnt
  | .mk kind name other num ek en es eof body els re im, ar, k => by
    obtain ⟨h1, h2, h3⟩ := plL_len th body (ar ++ [k]) (k + 1)
    obtain ⟨g1, g2, g3⟩ := plL_len th els (ar ++ [(plL th body (ar ++ [k]) (k + 1)).2]) ((plL th body (ar ++ [k]) (k + 1)).2 + 1)
    simp only [plS, S.cnt, List.length_cons, List.length_append]
    omega
theorem plL_len (th : Nat) : ∀ (l : List S) (ar : List Nat) (k : Nat), (plL th l ar k).1.length = cntL l ∧ k ≤ (plL th l ar k).2 ∧ (plL th l ar k).2 ≤ k + 2 * cntL l
  | [], ar, k => by simp [plL, cntL]
  | s :: r, ar, k => by
    obtain ⟨h1, h2, h3⟩ := plS_len th s ar k
    obtain ⟨g1, g2, g3⟩ := plL_len th r ar (plS th s ar k).2
    simp only [plL, cntL, List.length_append]
    omega
end

theorem encSL_lenJ : ∀ (l : List S), (encSLJ l).length = l.length
  | [] => by simp [encSLJ]
  | s :: r => by simp only [encSLJ, List.length_cons, encSL_lenJ r]
theorem encSL_atJ (pre : List S) (s : S) (r : List S) : (encSLJ (pre ++ s :: r))[pre.length]? = some s.enc := by
  rw [encSL_appendJ]
  rw [List.getElem?_append_right (by rw [encSL_lenJ]; exact Nat.le_refl _), encSL_lenJ, Nat.sub_self]
  simp only [encSLJ, List.getElem?_cons_zero]
theorem idx_SJ (pre : List S) (kind : Int) (name other : ByteArray) (num ek en : Int) (es : ByteArray) (eof : List T) (body els : List S) (re im : Nat) (r : List S) :
    idx true [.int .i64, .str, .str, .int .i64, .int .i64, .int .i64, .str, .list, .list, .list, .cplx .f64] (encSLJ (pre ++ S.mk kind name other num ek en es eof body els re im :: r)) (pre.length : Int) = some (S.enc (S.mk kind name other num ek en es eof body els re im)) := by
  have h0 : decide ((0 : Int) ≤ (pre.length : Int)) = true := by simp
  simp only [idx, cond_true, h0, Int.toNat_natCast, encSL_atJ]
  simp only [S.enc]
  rfl

theorem sized_iN (l : List Nat) : sized 1 (l.map iN) = true := by
  unfold sized
  rw [List.all_eq_true]
  intro y hy
  obtain ⟨t, _, rfl⟩ := List.mem_map.1 hy
  rfl

theorem clone_eq (n : Nat) (ar : List Nat) (h : ar.length ≤ 100000) : m_slices_Clone___int_int_ n (ar.map iN) = some (ar.map iN) := by
  unfold m_slices_Clone___int_int_
  refine must_is ?_ rfl
  rw [sized_iN]
  simp only [List.length_nil, List.length_map, Bool.and_true, Bool.and_eq_true, decide_eq_true_eq]
  exact ⟨rfl, by omega⟩

/-- What 'place' of a block comes to. -/
def PV (g : List T → Int → List T → List T → Int → Option ((List T) × Int)) (l : List S) : Prop :=
  ∀ (th : Nat) (out : List T) (ar : List Nat) (k : Nat), ar.length ≤ k → out.length + cntL l ≤ 100000 → k + 2 * cntL l ≤ 100000 → g out (th : Int) (ar.map iN) (encSLJ l) (k : Int) = some (out ++ (plL th l (ar ++ [k]) (k + 1)).1.map encPl, (((plL th l (ar ++ [k]) (k + 1)).2 : Nat) : Int))

section
variable {n : Nat}

theorem place_loop3 {b : B_jumps_place_v2} {K : Nat} (hb : ∀ l', cntL l' < K → PV b.jumps_place_v3 l') (th : Nat) (ar : List Nat) : ∀ (m : Nat) (r pre : List S) (out : List T) (k : Nat), r.length < m → cntL r ≤ K → ar.length ≤ k → out.length + cntL r ≤ 100000 → k + 2 * cntL r ≤ 100001 → pre.length + cntL r ≤ 100000 →
    l_jumps_place_v3_4 b n m (out, (th : Int), ar.map iN, encSLJ (pre ++ r), (((pre ++ r).length : Nat) : Int), (pre.length : Int), (k : Int)) = some (out ++ (plL th r ar k).1.map encPl, (((plL th r ar k).2 : Nat) : Int)) := by
  intro m
  induction m with
  | zero => intro r pre out k hm; omega
  | succ m ih =>
    intro r pre out k hm hK hk ho hk2 hp
    rw [l_jumps_place_v3_4]
    unfold l_jumps_place_v3_4_B
    simp only
    cases r with
    | nil =>
      refine cond_no (decide_eq_false (by simp)) ?_
      simp only [plL, List.map_nil, List.append_nil]
    | cons s r =>
      obtain ⟨kind, name, other, num, ek, en, es, eof, body, els, re, im⟩ := s
      simp only [cntL, S.cnt, List.length_cons] at hm hK ho hk2 hp
      refine cond_yes (decide_eq_true (by rw [List.length_append, List.length_cons]; omega)) ?_
      refine bind_eq (idx_SJ pre _ _ _ _ _ _ _ _ _ _ _ _ r) ?_
      refine must_is ?_ ?_
      · simp only [List.length_cons, List.length_nil, Bool.and_eq_true, decide_eq_true_eq]
        exact ⟨rfl, by omega, rfl⟩
      obtain ⟨h1, h2, h3⟩ := plL_len th body (ar ++ [k]) (k + 1)
      obtain ⟨g1, g2, g3⟩ := plL_len th els (ar ++ [(plL th body (ar ++ [k]) (k + 1)).2]) ((plL th body (ar ++ [k]) (k + 1)).2 + 1)
      refine bind_eq (hb body (by omega) th (out ++ [encPl ⟨S.mk kind name other num ek en es eof body els re im, th, ar, k⟩]) ar k hk (by simp; omega) (by omega)) ?_
      refine bind_eq (hb els (by omega) th _ ar (plL th body (ar ++ [k]) (k + 1)).2 (by omega) (by simp; omega) (by omega)) ?_
      simp only
      rw [wrap_up (show pre.length ≤ 281474976710656 by omega)]
      have e : pre ++ S.mk kind name other num ek en es eof body els re im :: r = (pre ++ [S.mk kind name other num ek en es eof body els re im]) ++ r := by simp
      have el : ((pre.length + 1 : Nat) : Int) = (((pre ++ [S.mk kind name other num ek en es eof body els re im]).length : Nat) : Int) := by simp
      rw [e, el]
      refine (ih r _ _ _ (by omega) (by omega) (by omega) (by simp; omega) (by omega) (by simp; omega)).trans ?_
      simp only [plL, plS, List.append_assoc, List.map_append, List.map_cons, List.cons_append, List.nil_append]

theorem place_loop2 {b : B_jumps_place_v2} {K : Nat} (hb : ∀ l', cntL l' < K → PV b.jumps_place_v3 l') (th : Nat) (ar : List Nat) : ∀ (m : Nat) (r pre : List S) (out : List T) (k : Nat), r.length < m → cntL r ≤ K → ar.length ≤ k → out.length + cntL r ≤ 100000 → k + 2 * cntL r ≤ 100001 → pre.length + cntL r ≤ 100000 →
    l_jumps_place_v2_4 b n m (out, (th : Int), ar.map iN, encSLJ (pre ++ r), (((pre ++ r).length : Nat) : Int), (pre.length : Int), (k : Int)) = some (out ++ (plL th r ar k).1.map encPl, (((plL th r ar k).2 : Nat) : Int)) := by
  intro m
  induction m with
  | zero => intro r pre out k hm; omega
  | succ m ih =>
    intro r pre out k hm hK hk ho hk2 hp
    rw [l_jumps_place_v2_4]
    unfold l_jumps_place_v2_4_B
    simp only
    cases r with
    | nil =>
      refine cond_no (decide_eq_false (by simp)) ?_
      simp only [plL, List.map_nil, List.append_nil]
    | cons s r =>
      obtain ⟨kind, name, other, num, ek, en, es, eof, body, els, re, im⟩ := s
      simp only [cntL, S.cnt, List.length_cons] at hm hK ho hk2 hp
      refine cond_yes (decide_eq_true (by rw [List.length_append, List.length_cons]; omega)) ?_
      refine bind_eq (idx_SJ pre _ _ _ _ _ _ _ _ _ _ _ _ r) ?_
      refine must_is ?_ ?_
      · simp only [List.length_cons, List.length_nil, Bool.and_eq_true, decide_eq_true_eq]
        exact ⟨rfl, by omega, rfl⟩
      obtain ⟨h1, h2, h3⟩ := plL_len th body (ar ++ [k]) (k + 1)
      obtain ⟨g1, g2, g3⟩ := plL_len th els (ar ++ [(plL th body (ar ++ [k]) (k + 1)).2]) ((plL th body (ar ++ [k]) (k + 1)).2 + 1)
      refine bind_eq (hb body (by omega) th (out ++ [encPl ⟨S.mk kind name other num ek en es eof body els re im, th, ar, k⟩]) ar k hk (by simp; omega) (by omega)) ?_
      refine bind_eq (hb els (by omega) th _ ar (plL th body (ar ++ [k]) (k + 1)).2 (by omega) (by simp; omega) (by omega)) ?_
      simp only
      rw [wrap_up (show pre.length ≤ 281474976710656 by omega)]
      have e : pre ++ S.mk kind name other num ek en es eof body els re im :: r = (pre ++ [S.mk kind name other num ek en es eof body els re im]) ++ r := by simp
      have el : ((pre.length + 1 : Nat) : Int) = (((pre ++ [S.mk kind name other num ek en es eof body els re im]).length : Nat) : Int) := by simp
      rw [e, el]
      refine (ih r _ _ _ (by omega) (by omega) (by omega) (by simp; omega) (by omega) (by simp; omega)).trans ?_
      simp only [plL, plS, List.append_assoc, List.map_append, List.map_cons, List.cons_append, List.nil_append]

theorem len_cntL : ∀ (l : List S), l.length ≤ cntL l
  | [] => by simp
  | s :: l => by
    have := len_cntL l
    have := cnt_pos s
    simp only [cntL, List.length_cons]; omega

theorem place3 (hn : 100000 < n) : ∀ (m : Nat) (l : List S), cntL l < m → PV (unB_jumps_place_v2 n m).jumps_place_v3 l := by
  intro m
  induction m with
  | zero => intro l h; omega
  | succ m ih =>
    intro l hl th out ar k hk ho hk2
    show f_jumps_place_v3 (unB_jumps_place_v2 n m) n out (th : Int) (ar.map iN) (encSLJ l) (k : Int) = _
    unfold f_jumps_place_v3
    refine bind_eq (clone_eq n ar (by omega)) ?_
    refine must_is ?_ ?_
    · simp only [List.length_map, List.length_cons, List.length_nil, Bool.and_eq_true, decide_eq_true_eq]
      exact ⟨rfl, by omega, rfl⟩
    have e : ar.map iN ++ [(T.sc (.int .i64 (k : Int)))] = (ar ++ [k]).map iN := by simp [iN]
    rw [e, wrap_up (show k ≤ 281474976710656 by omega), encSL_lenJ]
    have hlen := len_cntL l
    refine bind_eq (place_loop3 (n := n) (K := m) ih th (ar ++ [k]) n l [] out (k + 1) (by omega) (by omega) (by simp; omega) (by omega) (by omega) (by simp; omega)) ?_
    rfl

theorem place2 (hn : 100000 < n) (l : List S) (h : cntL l + 1 < n) : PV (m_jumps_place_v2 n) l := by
  intro th out ar k hk ho hk2
  unfold m_jumps_place_v2
  obtain ⟨m, rfl⟩ : ∃ m, n = m + 1 := ⟨n - 1, by omega⟩
  show f_jumps_place_v2 (unB_jumps_place_v2 (m + 1) m) (m + 1) out (th : Int) (ar.map iN) (encSLJ l) (k : Int) = _
  unfold f_jumps_place_v2
  refine bind_eq (clone_eq (m + 1) ar (by omega)) ?_
  refine must_is ?_ ?_
  · simp only [List.length_map, List.length_cons, List.length_nil, Bool.and_eq_true, decide_eq_true_eq]
    exact ⟨rfl, by omega, rfl⟩
  have e : ar.map iN ++ [(T.sc (.int .i64 (k : Int)))] = (ar ++ [k]).map iN := by simp [iN]
  rw [e, wrap_up (show k ≤ 281474976710656 by omega), encSL_lenJ]
  have hlen := len_cntL l
  refine bind_eq (place_loop2 (n := m + 1) (K := m) (fun l' hl' => place3 hn m l' hl') th (ar ++ [k]) (m + 1) l [] out (k + 1) (by omega) (by omega) (by simp; omega) (by omega) (by omega) (by simp; omega)) ?_
  rfl

theorem plP_len : ∀ (P : List (List S)) (th k : Nat), (plP P th k).1.length = cntP P ∧ k ≤ (plP P th k).2 ∧ (plP P th k).2 ≤ k + P.length + 2 * cntP P
  | [], th, k => by simp [plP, cntP]
  | l :: r, th, k => by
    obtain ⟨h1, h2, h3⟩ := plL_len th l [k] (k + 1)
    obtain ⟨g1, g2, g3⟩ := plP_len r (th + 1) (plL th l [k] (k + 1)).2
    simp only [plP, cntP, List.length_append, List.length_cons]
    omega

theorem idx_P (pre : List (List S)) (l : List S) (r : List (List S)) : idx true [.list] (encP (pre ++ l :: r)) (pre.length : Int) = some (T.list (encSLJ l)) := by
  have h0 : decide ((0 : Int) ≤ (pre.length : Int)) = true := by simp
  have h1 : (encP (pre ++ l :: r))[pre.length]? = some (T.list (encSLJ l)) := by
    unfold encP
    rw [List.getElem?_map, List.getElem?_append_right (Nat.le_refl _), Nat.sub_self]
    rfl
  simp only [idx, cond_true, h0, Int.toNat_natCast, h1]
  rfl

theorem all_eq (hn : 100000 < n) (P : List (List S)) (hP : cntP P ≤ 6000) (hl : P.length ≤ 4) (d : List T) : m_jumps_all n d (encP P) = some ((plP P 0 0).1.map encPl) := by
  have loop : ∀ (m : Nat) (r pre : List (List S)) (out : List T) (k : Nat), r.length < m → pre.length + r.length ≤ 4 → out.length + cntP r ≤ 6000 → k + 2 * cntP r + r.length ≤ 20000 → ∀ s4 s5,
      l_jumps_all_4 n m (out, encP (pre ++ r), (((pre ++ r).length : Nat) : Int), (pre.length : Int), s4, s5, (k : Int)) = some (out ++ (plP r pre.length k).1.map encPl, s4, s5, (((plP r pre.length k).2 : Nat) : Int)) := by
    intro m
    induction m with
    | zero => intro r pre out k hm; omega
    | succ m ih =>
      intro r pre out k hm hp ho hk s4 s5
      rw [l_jumps_all_4]
      unfold l_jumps_all_4_B
      simp only
      cases r with
      | nil =>
        refine cond_no (decide_eq_false (by simp)) ?_
        simp only [plP, List.map_nil, List.append_nil]
      | cons l r =>
        simp only [cntP, List.length_cons] at hm hp ho hk
        refine cond_yes (decide_eq_true (by rw [List.length_append, List.length_cons]; omega)) ?_
        refine bind_eq (idx_P pre l r) ?_
        refine bind_eq (place2 hn l (by omega) pre.length out [] k (by simp) (by omega) (by omega)) ?_
        obtain ⟨h1, h2, h3⟩ := plL_len pre.length l [k] (k + 1)
        simp only [List.nil_append]
        rw [wrap_up (show pre.length ≤ 281474976710656 by omega)]
        have e : pre ++ l :: r = (pre ++ [l]) ++ r := by simp
        have el : ((pre.length + 1 : Nat) : Int) = (((pre ++ [l]).length : Nat) : Int) := by simp
        have el2 : (pre ++ [l]).length = pre.length + 1 := by simp
        rw [e, el]
        refine (ih r _ _ _ (by omega) (by omega) (by simp; omega) (by omega) s4 s5).trans ?_
        rw [el2]
        simp only [plP, List.append_assoc, List.map_append]
  unfold m_jumps_all
  have hlen : (encP P).length = P.length := by simp [encP]
  rw [hlen]
  exact bind_eq (loop n P [] [] 0 (by omega) (by simp; omega) (by simp; omega) (by omega) d (encP P)) rfl

/-! the document's list of a program's statements -/

mutual
def flS : S → List S
  | .mk kind name other num ek en es eof body els re im => .mk kind name other num ek en es eof body els re im :: (flL body ++ flL els)
def flL : List S → List S
  | [] => []
  | s :: r => flS s ++ flL r
end
mutual
theorem plS_s (th : Nat) : ∀ (s : S) (ar : List Nat) (k : Nat), (plS th s ar k).1.map (·.s) = flS s
  | .mk kind name other num ek en es eof body els re im, ar, k => by
    simp only [plS, flS, List.map_cons, List.map_append, plL_s th body, plL_s th els]
theorem plL_s (th : Nat) : ∀ (l : List S) (ar : List Nat) (k : Nat), (plL th l ar k).1.map (·.s) = flL l
  | [], ar, k => by simp [plL, flL]
  | s :: r, ar, k => by simp only [plL, flL, List.map_append, plS_s th s, plL_s th r]
end
theorem flL_len (l : List S) : (flL l).length = cntL l := by
  rw [← plL_s 0 l [] 0, List.length_map, (plL_len 0 l [] 0).1]

def BV (g : List T → Option (List T)) (l : List S) : Prop := cntL l ≤ 100000 → g (encSLJ l) = some (encSLJ (flL l))

theorem sblock_c (hn : 100000 < n) : ∀ (m : Nat) (l : List S), cntL l < m → BV (unB_sutureref1_block n m).sutureref1_block l := by
  intro m
  induction m with
  | zero => intro l h; omega
  | succ m ih0 =>
    intro l hl hc
    have loop : ∀ (k : Nat) (r pre : List S) (out : List S), r.length < k → cntL r ≤ m → out.length + cntL r ≤ 100000 → pre.length + cntL r ≤ 100000 →
        l_sutureref1_block_3 (unB_sutureref1_block n m) n k (encSLJ (pre ++ r), encSLJ out, (pre.length : Int)) = some (encSLJ (out ++ flL r)) := by
      intro k
      induction k with
      | zero => intro r pre out hm; omega
      | succ k ih =>
        intro r pre out hm hK ho hp
        rw [l_sutureref1_block_3]
        unfold l_sutureref1_block_3_B
        simp only
        cases r with
        | nil =>
          refine cond_no (decide_eq_false (by rw [encSL_lenJ]; simp)) ?_
          simp only [flL, List.append_nil]
        | cons s r =>
          obtain ⟨kind, name, other, num, ek, en, es, eof, body, els, re, im⟩ := s
          simp only [cntL, S.cnt, List.length_cons] at hm hK ho hp
          have hb := flL_len body
          have he := flL_len els
          refine cond_yes (decide_eq_true (by rw [encSL_lenJ, List.length_append, List.length_cons]; omega)) ?_
          refine bind_eq (idx_SJ pre _ _ _ _ _ _ _ _ _ _ _ _ r) ?_
          refine must_is ?_ ?_
          · simp only [List.length_cons, List.length_nil, Bool.and_eq_true, decide_eq_true_eq, encSL_lenJ]
            exact ⟨rfl, by omega, rfl⟩
          refine bind_eq (idx_SJ pre _ _ _ _ _ _ _ _ _ _ _ _ r) ?_
          refine bind_eq (ih0 body (by omega) (by omega)) ?_
          have e1 : encSLJ out ++ [S.enc (S.mk kind name other num ek en es eof body els re im)] = encSLJ (out ++ [S.mk kind name other num ek en es eof body els re im]) := by
            rw [encSL_appendJ, encSL_oneJ]
          have e2 : ∀ (x : T), x = S.enc (S.mk kind name other num ek en es eof body els re im) → encSLJ out ++ [x] = encSLJ (out ++ [S.mk kind name other num ek en es eof body els re im]) := by
            rintro x rfl; exact e1
          rw [e2 _ (by simp only [S.enc]; rfl)]
          refine must_is ?_ ?_
          · simp only [sized_SJ, encSL_lenJ, List.length_append, List.length_cons, List.length_nil, Bool.and_true, Bool.and_eq_true, decide_eq_true_eq]
            exact ⟨rfl, by omega⟩
          refine bind_eq (idx_SJ pre _ _ _ _ _ _ _ _ _ _ _ _ r) ?_
          refine bind_eq (ih0 els (by omega) (by omega)) ?_
          rw [← encSL_appendJ]
          refine must_is ?_ ?_
          · simp only [sized_SJ, encSL_lenJ, List.length_append, List.length_cons, List.length_nil, Bool.and_true, Bool.and_eq_true, decide_eq_true_eq]
            exact ⟨rfl, by omega⟩
          rw [← encSL_appendJ, wrap_up (show pre.length ≤ 281474976710656 by omega)]
          have e : pre ++ S.mk kind name other num ek en es eof body els re im :: r = (pre ++ [S.mk kind name other num ek en es eof body els re im]) ++ r := by simp
          have el : ((pre.length + 1 : Nat) : Int) = (((pre ++ [S.mk kind name other num ek en es eof body els re im]).length : Nat) : Int) := by simp
          rw [e, el]
          refine (ih r _ _ (by omega) (by omega) (by simp; omega) (by simp; omega)).trans ?_
          simp only [flL, flS, List.append_assoc, List.cons_append, List.nil_append]
    show f_sutureref1_block (unB_sutureref1_block n m) n (encSLJ l) = _
    unfold f_sutureref1_block
    have hlen := len_cntL l
    have e0 : ([] : List T) = encSLJ [] := by simp only [encSLJ]
    rw [e0]
    exact bind_eq (loop n l [] [] (by omega) (by omega) (by simp; omega) (by simp; omega)) rfl

def flP : List (List S) → List S
  | [] => []
  | l :: r => flL l ++ flP r
theorem plP_s : ∀ (P : List (List S)) (th k : Nat), (plP P th k).1.map (·.s) = flP P
  | [], th, k => by simp [plP, flP]
  | l :: r, th, k => by simp only [plP, flP, List.map_append, plL_s, plP_s r]

theorem list_eq (hn : 100000 < n) (P : List (List S)) (hP : cntP P ≤ 6000) (hl : P.length ≤ 4) (d : List T) : m_sutureref1_List n d (encP P) = some (encSLJ (flP P)) := by
  have loop : ∀ (m : Nat) (r pre : List (List S)) (out : List S), r.length < m → pre.length + r.length ≤ 4 → out.length + cntP r ≤ 6000 → ∀ s2,
      l_sutureref1_List_3 n m (encSLJ out, (pre.length : Int), s2, encP (pre ++ r)) = some (encSLJ (out ++ flP r), s2, encP (pre ++ r)) := by
    intro m
    induction m with
    | zero => intro r pre out hm; omega
    | succ m ih =>
      intro r pre out hm hp ho s2
      rw [l_sutureref1_List_3]
      unfold l_sutureref1_List_3_B
      simp only
      have hlen : (encP (pre ++ r)).length = pre.length + r.length := by simp [encP]
      cases r with
      | nil =>
        refine cond_no (decide_eq_false (by rw [hlen]; simp)) ?_
        simp only [flP, List.append_nil]
      | cons l r =>
        simp only [cntP, List.length_cons] at hm hp ho
        have hb := flL_len l
        refine cond_yes (decide_eq_true (by rw [hlen, List.length_cons]; omega)) ?_
        refine bind_eq (idx_P pre l r) ?_
        refine bind_eq (sblock_c hn n l (by omega) (by omega)) ?_
        refine must_is ?_ ?_
        · simp only [sized_SJ, encSL_lenJ, Bool.and_true, Bool.and_eq_true, decide_eq_true_eq]
          exact ⟨rfl, by omega⟩
        rw [← encSL_appendJ, wrap_up (show pre.length ≤ 281474976710656 by omega)]
        have e : pre ++ l :: r = (pre ++ [l]) ++ r := by simp
        have el : ((pre.length + 1 : Nat) : Int) = (((pre ++ [l]).length : Nat) : Int) := by simp
        rw [e, el]
        refine (ih r _ _ (by omega) (by simp; omega) (by simp; omega) s2).trans ?_
        simp only [flP, List.append_assoc]
  unfold m_sutureref1_List
  have e0 : ([] : List T) = encSLJ [] := by simp only [encSLJ]
  rw [e0]
  exact bind_eq (loop n P [] [] (by omega) (by simp; omega) (by simp; omega) d) rfl

def thP : List (List S) → Nat → List Nat
  | [], _ => []
  | l :: r, th => List.replicate (cntL l) th ++ thP r (th + 1)

end
end Go.Proofs.Ytgpokdaacbjimab.W
