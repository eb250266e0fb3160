/- Chapter 9, plain: the blocks' numbers: what stands in a statement has blocks around it that are newer than any around what stands ahead. -/
import Derived.Test.YtgpokdaacbjimabJG
namespace Go.Proofs.Ytgpokdaacbjimab.W
open Go Go.Eng
set_option linter.unusedVariables false
set_option linter.unusedSimpArgs false
set_option linter.unusedSectionVars false

def S.inn : S → Nat
  | .mk _ _ _ _ _ _ _ _ body els _ _ => cntL body + cntL els
def S.kind : S → Int
  | .mk k _ _ _ _ _ _ _ _ _ _ _ => k
def S.name : S → ByteArray
  | .mk _ nm _ _ _ _ _ _ _ _ _ _ => nm

def Nest : List Pl → Prop
  | [] => True
  | x :: r => x.s.inn ≤ r.length ∧ (∀ y ∈ r.take x.s.inn, ∃ b, y.ar.getLast? = some b ∧ x.c ≤ b) ∧ Nest r

theorem Nest_append : ∀ (a b : List Pl), Nest a → Nest b → Nest (a ++ b)
  | [], b, _, h => h
  | x :: a, b, h, hb => by
    obtain ⟨h1, h2, h3⟩ := h
    rw [List.cons_append]
    refine ⟨by rw [List.length_append]; omega, ?_, Nest_append a b h3 hb⟩
    rw [List.take_append_of_le_length h1]
    exact h2

/-- What is known of a row of placed statements, that stand between two numbers of blocks. -/
structure Row (X : List Pl) (k k2 : Nat) : Prop where
  nest : Nest X
  low : ∀ x ∈ X, k ≤ x.c
  high : ∀ x ∈ X, x.c ≤ k2
  old : ∀ x ∈ X, ∀ b ∈ x.ar, b < x.c
  some_ : ∀ x ∈ X, x.ar ≠ []
  rise : X.Pairwise (fun x y => x.c ≤ y.c)

theorem Row.append {a b : List Pl} {k k2 k3 : Nat} (ha : Row a k k2) (hb : Row b k2 k3) (h1 : k ≤ k2) (h2 : k2 ≤ k3) : Row (a ++ b) k k3 := by
  refine ⟨Nest_append a b ha.nest hb.nest, ?_, ?_, ?_, ?_, ?_⟩
  · intro x hx
    rcases List.mem_append.1 hx with h | h
    · exact ha.low x h
    · have := hb.low x h; omega
  · intro x hx
    rcases List.mem_append.1 hx with h | h
    · have := ha.high x h; omega
    · exact hb.high x h
  · intro x hx
    rcases List.mem_append.1 hx with h | h
    · exact ha.old x h
    · exact hb.old x h
  · intro x hx
    rcases List.mem_append.1 hx with h | h
    · exact ha.some_ x h
    · exact hb.some_ x h
  · refine List.pairwise_append.2 ⟨ha.rise, hb.rise, fun x hx y hy => ?_⟩
    have := ha.high x hx
    have := hb.low y hy
    omega
theorem Row.lower {a : List Pl} {k j k2 : Nat} (ha : Row a k k2) (h : j ≤ k) : Row a j k2 := ⟨ha.nest, fun x hx => by have := ha.low x hx; omega, ha.high, ha.old, ha.some_, ha.rise⟩

/-- Around all of it stands ar, or something newer besides. -/
def In (X : List Pl) (ar : List Nat) (k : Nat) : Prop := ∀ x ∈ X, x.ar = ar ∨ ∃ b, x.ar.getLast? = some b ∧ k ≤ b

theorem getLast_one (ar : List Nat) (k : Nat) : (ar ++ [k]).getLast? = some k := by simp

mutual
theorem plS_row (th : Nat) : ∀ (s : S) (ar : List Nat) (k : Nat), (∀ b ∈ ar, b < k) → ar ≠ [] → Row (plS th s ar k).1 k (plS th s ar k).2 ∧ In (plS th s ar k).1 ar k
  | .mk kind name other num ek en es eof body els re im, ar, k, hb, hne => by
    obtain ⟨l1, l2, l3⟩ := plL_len th body (ar ++ [k]) (k + 1)
    obtain ⟨m1, m2, m3⟩ := plL_len th els (ar ++ [(plL th body (ar ++ [k]) (k + 1)).2]) ((plL th body (ar ++ [k]) (k + 1)).2 + 1)
    obtain ⟨h1, h2⟩ := plL_row th body (ar ++ [k]) (k + 1) (by
      intro b hx
      rcases List.mem_append.1 hx with h | h
      · have := hb b h; omega
      · have := List.mem_singleton.1 h; omega) (by simp)
    obtain ⟨g1, g2⟩ := plL_row th els (ar ++ [(plL th body (ar ++ [k]) (k + 1)).2]) ((plL th body (ar ++ [k]) (k + 1)).2 + 1) (by
      intro b hx
      rcases List.mem_append.1 hx with h | h
      · have := hb b h; omega
      · have := List.mem_singleton.1 h; omega) (by simp)
    simp only [plS]
    generalize (plL th body (ar ++ [k]) (k + 1)).1 = a at *
    generalize (plL th body (ar ++ [k]) (k + 1)).2 = ka at *
    generalize (plL th els (ar ++ [ka]) (ka + 1)).1 = e at *
    generalize (plL th els (ar ++ [ka]) (ka + 1)).2 = ke at *
    have hrow := h1.append (g1.lower (show ka ≤ ka + 1 by omega)) (by omega) (by omega)
    have hin : ∀ y ∈ a ++ e, ∃ b, y.ar.getLast? = some b ∧ k ≤ b := by
      intro y hy
      rcases List.mem_append.1 hy with h | h
      · rcases h2 y h with h | ⟨b, h, hb⟩
        · exact ⟨k, by rw [h, getLast_one], by omega⟩
        · exact ⟨b, h, by omega⟩
      · rcases g2 y h with h | ⟨b, h, hb⟩
        · exact ⟨ka, by rw [h, getLast_one], by omega⟩
        · exact ⟨b, h, by omega⟩
    refine ⟨⟨⟨?_, ?_, hrow.nest⟩, ?_, ?_, ?_, ?_, ?_⟩, ?_⟩
    · simp only [S.inn, List.length_append]; omega
    · intro y hy
      exact hin y (List.mem_of_mem_take hy)
    · intro x hx
      rcases List.mem_cons.1 hx with rfl | h
      · exact Nat.le_refl _
      · have := hrow.low x h; omega
    · intro x hx
      rcases List.mem_cons.1 hx with rfl | h
      · simp only; omega
      · exact hrow.high x h
    · intro x hx
      rcases List.mem_cons.1 hx with rfl | h
      · exact hb
      · exact hrow.old x h
    · intro x hx
      rcases List.mem_cons.1 hx with rfl | h
      · exact hne
      · exact hrow.some_ x h
    · refine List.pairwise_cons.2 ⟨fun y hy => ?_, hrow.rise⟩
      have := hrow.low y hy
      simp only; omega
    · intro x hx
      rcases List.mem_cons.1 hx with rfl | h
      · exact .inl rfl
      · exact .inr (hin x h)
theorem plL_row (th : Nat) : ∀ (l : List S) (ar : List Nat) (k : Nat), (∀ b ∈ ar, b < k) → ar ≠ [] → Row (plL th l ar k).1 k (plL th l ar k).2 ∧ In (plL th l ar k).1 ar k
  | [], ar, k, hb, hne => by
    simp only [plL]
    refine ⟨⟨trivial, ?_, ?_, ?_, ?_, List.Pairwise.nil⟩, ?_⟩ <;> intro x hx <;> simp at hx
  | s :: r, ar, k, hb, hne => by
    obtain ⟨l1, l2, l3⟩ := plS_len th s ar k
    obtain ⟨h1, h2⟩ := plS_row th s ar k hb hne
    obtain ⟨m1, m2, m3⟩ := plL_len th r ar (plS th s ar k).2
    obtain ⟨g1, g2⟩ := plL_row th r ar (plS th s ar k).2 (fun b hx => by have := hb b hx; omega) hne
    simp only [plL]
    refine ⟨h1.append g1 l2 m2, fun x hx => ?_⟩
    rcases List.mem_append.1 hx with h | h
    · exact h2 x h
    · rcases g2 x h with h | ⟨b, h, hb⟩
      · exact .inl h
      · exact .inr ⟨b, h, by omega⟩
end

theorem plP_row : ∀ (P : List (List S)) (th k : Nat), Row (plP P th k).1 k (plP P th k).2
  | [], th, k => by
    simp only [plP]
    refine ⟨trivial, ?_, ?_, ?_, ?_, List.Pairwise.nil⟩ <;> intro x hx <;> simp at hx
  | l :: r, th, k => by
    obtain ⟨l1, l2, l3⟩ := plL_len th l [k] (k + 1)
    obtain ⟨m1, m2, m3⟩ := plP_len r (th + 1) (plL th l [k] (k + 1)).2
    have h1 := (plL_row th l [k] (k + 1) (by intro b hb; have := List.mem_singleton.1 hb; omega) (by simp)).1
    have h2 := plP_row r (th + 1) (plL th l [k] (k + 1)).2
    simp only [plP]
    exact (h1.lower (by omega)).append h2 (by omega) m2

theorem Nest_drop : ∀ (X : List Pl) (k : Nat), Nest X → Nest (X.drop k)
  | X, 0, h => h
  | [], k + 1, h => h
  | x :: r, k + 1, h => by simpa using Nest_drop r k h.2.2

/-- What a label's block stands around comes behind what the label's block stands in. -/
theorem no_block {X : List Pl} {k0 k2 : Nat} (h : Row X k0 k2) {i k t : Nat} {a x y : Pl} (hi : X[i]? = some a) (hk : X[k]? = some x) (ht : X[t]? = some y) (hik : i ≤ k) (hkt : k < t) (htk : t ≤ k + x.s.inn) {b : Nat} (hb : y.ar.getLast? = some b) (hba : b ∈ a.ar) : False := by
  obtain ⟨hkl, hkx⟩ := List.getElem?_eq_some_iff.1 hk
  obtain ⟨hil, hia⟩ := List.getElem?_eq_some_iff.1 hi
  have hd := Nest_drop X k h.nest
  rw [List.drop_eq_getElem_cons hkl, hkx] at hd
  obtain ⟨_, h2, _⟩ := hd
  have hy : y ∈ (X.drop (k + 1)).take x.s.inn := by
    refine List.mem_of_getElem? (i := t - (k + 1)) ?_
    rw [List.getElem?_take_of_lt (by omega), List.getElem?_drop, show k + 1 + (t - (k + 1)) = t by omega]
    exact ht
  obtain ⟨b', e1, e2⟩ := h2 y hy
  rw [hb] at e1
  simp only [Option.some.injEq] at e1
  subst e1
  have h3 := h.old a (List.mem_of_getElem? hi) b hba
  have h4 : a.c ≤ x.c := by
    by_cases he : i = k
    · subst he
      rw [hi] at hk
      simp only [Option.some.injEq] at hk
      subst hk
      exact Nat.le_refl _
    · have := List.pairwise_iff_getElem.1 h.rise i k hil hkl (by omega)
      rw [hia, hkx] at this
      exact this
  omega

theorem plP_th : ∀ (P : List (List S)) (th k : Nat), (plP P th k).1.map (·.th) = thP P th := by
  have hS : ∀ (th : Nat) (l : List S) (ar : List Nat) (k : Nat), (plL th l ar k).1.map (·.th) = List.replicate (cntL l) th := by
    intro th l ar k
    rw [List.eq_replicate_iff]
    refine ⟨by rw [List.length_map, (plL_len th l ar k).1], ?_⟩
    intro b hb
    obtain ⟨x, hx, rfl⟩ := List.mem_map.1 hb
    exact allTh th l ar k x hx
  intro P
  induction P with
  | nil => intro th k; simp [plP, thP]
  | cons l r ih => intro th k; simp only [plP, thP, List.map_append, hS, ih]
where
  allTh (th : Nat) : ∀ (l : List S) (ar : List Nat) (k : Nat), ∀ x ∈ (plL th l ar k).1, x.th = th := by
    intro l
    exact (thL th l)
  thL (th : Nat) : ∀ (l : List S) (ar : List Nat) (k : Nat), ∀ x ∈ (plL th l ar k).1, x.th = th
    | [], ar, k, x, hx => by simp [plL] at hx
    | .mk kind name other num ek en es eof body els re im :: r, ar, k, x, hx => by
      simp only [plL, plS, List.mem_append, List.mem_cons] at hx
      rcases hx with (rfl | hx | hx) | hx
      · rfl
      · exact thL th body _ _ x hx
      · exact thL th els _ _ x hx
      · exact thL th r _ _ x hx
end Go.Proofs.Ytgpokdaacbjimab.W
