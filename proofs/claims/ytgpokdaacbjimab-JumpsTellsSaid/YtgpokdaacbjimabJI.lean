/- Chapter 9, plain: where a goto goes, and that no block is in the way. -/
import Derived.Test.YtgpokdaacbjimabJH
import Derived.Test.YtgpokdaacbjimabJK
namespace Go.Proofs.Ytgpokdaacbjimab.W
open Go Go.Eng
set_option linter.unusedVariables false
set_option linter.unusedSimpArgs false
set_option linter.unusedSectionVars false

theorem getPl (x : Pl) : ((encPl x).cell 0).int = x.s.kind ∧ ((encPl x).cell 1).str = x.s.name ∧ ((encPl x).cell 11).int = (x.th : Int) ∧ ((encPl x).cell 12).lst = x.ar.map iN := by
  obtain ⟨⟨kind, name, other, num, ek, en, es, eof, body, els, re, im⟩, th, ar, c⟩ := x
  exact ⟨rfl, rfl, rfl, rfl⟩

theorem idx_Pl {X : List Pl} {i : Nat} (h : i < X.length) : idx true [.int .i64, .str, .str, .int .i64, .int .i64, .int .i64, .str, .list, .list, .list, .cplx .f64, .int .i64, .list] (X.map encPl) (i : Int) = some (encPl X[i]) := by
  have h0 : decide ((0 : Int) ≤ (i : Int)) = true := by simp
  simp only [idx, cond_true, h0, Int.toNat_natCast, List.getElem?_map, List.getElem?_eq_getElem h, Option.map_some]
  obtain ⟨⟨kind, name, other, num, ek, en, es, eof, body, els, re, im⟩, th, ar, c⟩ := X[i]
  rfl
theorem idx_no {sh : List _} {l : List T} {i : Int} : Comes (idx false sh l i) fun _ => True := ⟨_, rfl, trivial⟩

theorem idx_N {l : List Nat} {i : Nat} (h : i < l.length) : idx true [.int .i64] (l.map iN) (i : Int) = some (iN l[i]) := by
  have h0 : decide ((0 : Int) ≤ (i : Int)) = true := by simp
  simp only [idx, cond_true, h0, Int.toNat_natCast, List.getElem?_map, List.getElem?_eq_getElem h, Option.map_some]
  rfl

theorem sized_Pl (X : List Pl) : sized 13 (X.map encPl) = true := by
  unfold sized
  rw [List.all_eq_true]
  intro y hy
  obtain ⟨⟨⟨kind, name, other, num, ek, en, es, eof, body, els, re, im⟩, th, ar, c⟩, _, rfl⟩ := List.mem_map.1 hy
  rfl

theorem contains_c {n : Nat} (l : List Nat) (hl : l.length ≤ 100000) (hn : 100000 < n) (b : Nat) : Comes (m_slices_Contains___int_int_ n (l.map iN) (b : Int)) fun r => r = true → b ∈ l := by
  have loop : ∀ (m i : Nat), i ≤ l.length → l.length - i < m → Comes (l_slices_Index___int_int__2 n m (l.map iN, (b : Int), ((l.length : Nat) : Int), (i : Int))) fun r => match r with
      | .inl v => 0 ≤ v → b ∈ l
      | .inr _ => True := by
    intro m
    induction m with
    | zero => intro i h1 h2; omega
    | succ m ih =>
      intro i h1 h2
      rw [l_slices_Index___int_int__2]
      unfold l_slices_Index___int_int__2_B
      simp only
      refine comes_cond (fun hc => ?_) (fun _ => comes_some trivial)
      have hc := of_decide_eq_true hc
      have hlt : i < l.length := by omega
      rw [idx_N hlt]
      simp only [Option.bind_some]
      refine comes_cond (fun he => ?_) (fun _ => ?_)
      · have he := beq_iff_eq.1 he
        have e : ((iN l[i]).cell 0).int = (l[i] : Int) := rfl
        rw [e] at he
        refine comes_some (fun _ => ?_)
        have : b = l[i] := by omega
        rw [this]
        exact List.getElem_mem hlt
      · rw [wrap_up (show i ≤ 281474976710656 by omega)]
        exact ih (i + 1) (by omega) (by omega)
  unfold m_slices_Contains___int_int_ m_slices_Index___int_int_
  rw [List.length_map]
  refine comes_bind (P := fun r => 0 ≤ r → b ∈ l) ?_ fun r hr => comes_some fun h => hr (of_decide_eq_true h)
  refine comes_bind (loop n 0 (by omega) (by omega)) fun x hx => ?_
  cases x with
  | inl v => exact comes_some hx
  | inr v => exact comes_some (fun h => by simp at h)

/-- What a goto's target comes to. -/
def TQ (X : List Pl) (i : Nat) (r : Int) : Prop := r = -1 ∨ ∃ (t : Nat) (a y : Pl) (b : Nat), r = (t : Int) ∧ i < t ∧ X[i]? = some a ∧ X[t]? = some y ∧ a.s.kind = 9 ∧ y.s.kind = 10 ∧ (ByteArray.toList y.s.name == ByteArray.toList a.s.name) = true ∧ y.th = a.th ∧ y.ar.getLast? = some b ∧ b ∈ a.ar

theorem arL (th : Nat) : ∀ (l : List S) (ar : List Nat) (k : Nat), ar.length ≤ k → ∀ x ∈ (plL th l ar k).1, x.ar.length ≤ x.c
  | [], ar, k, h, x, hx => by simp [plL] at hx
  | .mk kind name other num ek en es eof body els re im :: r, ar, k, h, x, hx => by
    obtain ⟨l1, l2, l3⟩ := plL_len th body (ar ++ [k]) (k + 1)
    obtain ⟨m1, m2, m3⟩ := plL_len th els (ar ++ [(plL th body (ar ++ [k]) (k + 1)).2]) ((plL th body (ar ++ [k]) (k + 1)).2 + 1)
    simp only [plL, plS, List.mem_append, List.mem_cons] at hx
    rcases hx with (rfl | hx | hx) | hx
    · exact h
    · exact arL th body _ _ (by simp; omega) x hx
    · exact arL th els _ _ (by simp; omega) x hx
    · exact arL th r _ _ (by omega) x hx
theorem arP : ∀ (P : List (List S)) (th k : Nat), ∀ x ∈ (plP P th k).1, x.ar.length ≤ x.c
  | [], th, k, x, hx => by simp [plP] at hx
  | l :: r, th, k, x, hx => by
    simp only [plP, List.mem_append] at hx
    rcases hx with hx | hx
    · exact arL th l _ _ (by simp) x hx
    · exact arP r _ _ x hx

end Go.Proofs.Ytgpokdaacbjimab.W
