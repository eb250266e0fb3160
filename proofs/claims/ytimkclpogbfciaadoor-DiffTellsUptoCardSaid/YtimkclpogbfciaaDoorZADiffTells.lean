/- Own texts, several in one. No conditions. -/
import Derived.Test.YtimkclpogbfciaaDoorCon
import Derived.Lib.SplitLaws
namespace Go.Proofs.YtimkclpogbfciaaDoor.W
set_option linter.unusedVariables false
set_option linter.unusedSimpArgs false
set_option linter.unusedSectionVars false

section
variable {α : Type} [DecidableEq α]

/-- How many can be kept of two lists. -/
def lc : List α → List α → Nat
  | [], _ => 0
  | _ :: _, [] => 0
  | x :: a, y :: b => if x = y then 1 + lc a b else max (lc a (y :: b)) (lc (x :: a) b)
termination_by a b => a.length + b.length
decreasing_by all_goals (simp only [List.length_cons]; omega)

theorem lc_nil_l (b : List α) : lc [] b = 0 := by rw [lc]
theorem lc_nil_r : ∀ a : List α, lc a [] = 0
  | [] => by rw [lc]
  | _ :: _ => by rw [lc]
theorem lc_eq (x : α) (a b : List α) : lc (x :: a) (x :: b) = 1 + lc a b := by rw [lc, if_pos rfl]
theorem lc_ne {x y : α} (h : x ≠ y) (a b : List α) : lc (x :: a) (y :: b) = max (lc a (y :: b)) (lc (x :: a) b) := by rw [lc, if_neg h]

theorem lc_facts : ∀ (m : Nat) (a b : List α), a.length + b.length ≤ m → (∀ x, lc a b ≤ lc (x :: a) b ∧ lc (x :: a) b ≤ 1 + lc a b) ∧ (∀ y, lc a b ≤ lc a (y :: b) ∧ lc a (y :: b) ≤ 1 + lc a b) := by
  intro m
  induction m with
  | zero =>
    intro a b h
    have ha : a = [] := List.eq_nil_of_length_eq_zero (by omega)
    have hb : b = [] := List.eq_nil_of_length_eq_zero (by omega)
    subst ha; subst hb
    simp [lc_nil_l, lc_nil_r]
  | succ m ih =>
    intro a b h
    constructor
    · intro x
      cases b with
      | nil => simp [lc_nil_r]
      | cons y b =>
        simp only [List.length_cons] at h
        by_cases e : x = y
        · subst e
          rw [lc_eq]
          have := (ih a b (by omega)).2 x
          omega
        · rw [lc_ne e]
          have h1 := (ih a b (by omega)).1 x
          have h2 := (ih a b (by omega)).2 y
          omega
    · intro y
      cases a with
      | nil => simp [lc_nil_l]
      | cons x a =>
        simp only [List.length_cons] at h
        by_cases e : x = y
        · subst e
          rw [lc_eq]
          have := (ih a b (by omega)).1 x
          omega
        · rw [lc_ne e]
          have h1 := (ih a b (by omega)).1 x
          have h2 := (ih a b (by omega)).2 y
          omega
theorem lc_l (x : α) (a b : List α) : lc a b ≤ lc (x :: a) b ∧ lc (x :: a) b ≤ 1 + lc a b := (lc_facts _ a b (Nat.le_refl _)).1 x
theorem lc_r (y : α) (a b : List α) : lc a b ≤ lc a (y :: b) ∧ lc a (y :: b) ≤ 1 + lc a b := (lc_facts _ a b (Nat.le_refl _)).2 y

/-- As the document reckons it. -/
theorem lc_doc (x y : α) (a b : List α) : lc (x :: a) (y :: b) = if x = y then max (max (lc a (y :: b)) (lc (x :: a) b)) (1 + lc a b) else max (lc a (y :: b)) (lc (x :: a) b) := by
  by_cases e : x = y
  · subst e
    rw [if_pos rfl, lc_eq]
    have h1 := (lc_r x a b).2
    have h2 := (lc_l x a b).2
    omega
  · rw [if_neg e, lc_ne e]

theorem lc_symm : ∀ (m : Nat) (a b : List α), a.length + b.length ≤ m → lc a b = lc b a := by
  intro m
  induction m with
  | zero =>
    intro a b h
    have ha : a = [] := List.eq_nil_of_length_eq_zero (by omega)
    have hb : b = [] := List.eq_nil_of_length_eq_zero (by omega)
    subst ha; subst hb; rfl
  | succ m ih =>
    intro a b h
    cases a with
    | nil => rw [lc_nil_l, lc_nil_r]
    | cons x a =>
      cases b with
      | nil => rw [lc_nil_l, lc_nil_r]
      | cons y b =>
        simp only [List.length_cons] at h
        by_cases e : x = y
        · subst e; rw [lc_eq, lc_eq, ih a b (by omega)]
        · rw [lc_ne e, lc_ne (Ne.symm e), ih a (y :: b) (by simp only [List.length_cons]; omega), ih (x :: a) b (by simp only [List.length_cons]; omega), Nat.max_comm]
theorem lc_comm (a b : List α) : lc a b = lc b a := lc_symm _ a b (Nat.le_refl _)
theorem lc_le_l : ∀ (a b : List α), lc a b ≤ a.length
  | [], b => by rw [lc_nil_l]; exact Nat.zero_le _
  | x :: a, b => by have := (lc_l x a b).2; have := lc_le_l a b; simp only [List.length_cons]; omega
theorem lc_le_r (a b : List α) : lc a b ≤ b.length := by rw [lc_comm]; exact lc_le_l b a
theorem lc_self : ∀ a : List α, lc a a = a.length
  | [] => by rw [lc_nil_l]; rfl
  | x :: a => by rw [lc_eq, lc_self a, List.length_cons]; omega
theorem lc_skip (a : List α) : ∀ (p b : List α), lc a b ≤ lc a (p ++ b)
  | [], b => Nat.le_refl _
  | y :: p, b => by have := lc_skip a p b; have := (lc_r y a (p ++ b)).1; rw [List.cons_append]; omega
theorem lc_front : ∀ (f a b : List α), lc (f ++ a) (f ++ b) = f.length + lc a b
  | [], a, b => by simp
  | x :: f, a, b => by rw [List.cons_append, List.cons_append, lc_eq, lc_front f, List.length_cons]; omega
theorem lc_mem {c : α} : ∀ {b : List α}, c ∈ b → 1 ≤ lc [c] b
  | [], h => by simp at h
  | y :: b, h => by
    by_cases e : c = y
    · subst e; rw [lc_eq]; omega
    · have h' : c ∈ b := by simpa [e] using h
      have := lc_mem h'
      have := (lc_r y [c] b).1
      omega
theorem lc_last : ∀ (m : Nat) (a b : List α) (c : α), a.length + b.length ≤ m → lc (a ++ [c]) (b ++ [c]) = 1 + lc a b := by
  intro m
  induction m with
  | zero =>
    intro a b c h
    have ha : a = [] := List.eq_nil_of_length_eq_zero (by omega)
    have hb : b = [] := List.eq_nil_of_length_eq_zero (by omega)
    subst ha; subst hb
    rw [List.nil_append, lc_eq]
  | succ m ih =>
    intro a b c h
    cases a with
    | nil =>
      rw [List.nil_append, lc_nil_l]
      have h1 := lc_mem (c := c) (b := b ++ [c]) (by simp)
      have h2 := lc_le_l [c] (b ++ [c])
      simp only [List.length_cons, List.length_nil] at h2
      omega
    | cons x a =>
      cases b with
      | nil =>
        rw [List.nil_append, lc_nil_r, lc_comm]
        have h1 := lc_mem (c := c) (b := x :: a ++ [c]) (by simp)
        have h2 := lc_le_l [c] (x :: a ++ [c])
        simp only [List.length_cons, List.length_nil] at h2
        omega
      | cons y b =>
        simp only [List.length_cons] at h
        by_cases e : x = y
        · subst e
          rw [List.cons_append, List.cons_append, lc_eq, lc_eq, ih a b c (by omega)]
        · have i1 := ih a (y :: b) c (by simp only [List.length_cons]; omega)
          have i2 := ih (x :: a) b c (by simp only [List.length_cons]; omega)
          rw [List.cons_append] at i1 i2
          rw [List.cons_append, List.cons_append, lc_ne e, lc_ne e, i1, i2]
          omega
theorem lc_back (a b : List α) : ∀ (e : List α), lc (a ++ e) (b ++ e) = e.length + lc a b := by
  intro e
  have key : ∀ (l : List α) (a b : List α), lc (a ++ l) (b ++ l) = l.length + lc a b := by
    intro l
    induction l with
    | nil => intro a b; simp
    | cons c l ih =>
      intro a b
      have h := ih (a ++ [c]) (b ++ [c])
      rw [List.append_assoc, List.append_assoc, List.singleton_append, lc_last _ a b c (Nat.le_refl _)] at h
      rw [h, List.length_cons]
      omega
  exact key e a b

/-! the path -/
inductive Op (α : Type)
  | keep
  | drop
  | add (y : α)

def path : List α → List α → List (Op α)
  | [], [] => []
  | [], y :: b => .add y :: path [] b
  | x :: a, [] => .drop :: path a []
  | x :: a, y :: b => if x = y then .keep :: path a b else if lc (x :: a) b ≤ lc a (y :: b) then .drop :: path a (y :: b) else .add y :: path (x :: a) b
termination_by a b => a.length + b.length
decreasing_by all_goals (simp only [List.length_cons, List.length_nil]; omega)

theorem path_nn : path ([] : List α) [] = [] := by rw [path]
theorem path_nc (y : α) (b : List α) : path [] (y :: b) = .add y :: path [] b := by rw [path]
theorem path_cn (x : α) (a : List α) : path (x :: a) [] = .drop :: path a [] := by rw [path]
theorem path_cc (x y : α) (a b : List α) : path (x :: a) (y :: b) = if x = y then .keep :: path a b else if lc (x :: a) b ≤ lc a (y :: b) then .drop :: path a (y :: b) else .add y :: path (x :: a) b := by rw [path]

/-- What is made of a list. -/
def app : List (Op α) → List α → Option (List α)
  | [], [] => some []
  | [], _ :: _ => none
  | .keep :: o, [] => none
  | .keep :: o, x :: a => (app o a).map (x :: ·)
  | .drop :: o, [] => none
  | .drop :: o, _ :: a => app o a
  | .add y :: o, a => (app o a).map (y :: ·)
def keeps : List (Op α) → Nat
  | [] => 0
  | .keep :: o => 1 + keeps o
  | .drop :: o => keeps o
  | .add _ :: o => keeps o

theorem path_all : ∀ (m : Nat) (a b : List α), a.length + b.length ≤ m → app (path a b) a = some b ∧ keeps (path a b) = lc a b := by
  intro m
  induction m with
  | zero =>
    intro a b h
    have ha : a = [] := List.eq_nil_of_length_eq_zero (by omega)
    have hb : b = [] := List.eq_nil_of_length_eq_zero (by omega)
    subst ha; subst hb
    rw [path_nn, lc_nil_l]
    exact ⟨rfl, rfl⟩
  | succ m ih =>
    intro a b h
    match a, b with
    | [], [] => rw [path_nn, lc_nil_l]; exact ⟨rfl, rfl⟩
    | [], y :: b =>
      obtain ⟨h1, h2⟩ := ih [] b (by simp only [List.length_cons] at h; omega)
      rw [path_nc, lc_nil_l]
      rw [lc_nil_l] at h2
      exact ⟨by simp only [app, h1, Option.map_some], h2⟩
    | x :: a, [] =>
      obtain ⟨h1, h2⟩ := ih a [] (by simp only [List.length_cons] at h; omega)
      rw [path_cn, lc_nil_r]
      rw [lc_nil_r] at h2
      exact ⟨h1, h2⟩
    | x :: a, y :: b =>
      simp only [List.length_cons] at h
      rw [path_cc]
      by_cases e : x = y
      · subst e
        obtain ⟨h1, h2⟩ := ih a b (by omega)
        rw [if_pos rfl, lc_eq]
        exact ⟨by simp only [app, h1, Option.map_some], by simp only [keeps, h2]⟩
      · rw [if_neg e, lc_ne e]
        split
        · rename_i hle
          obtain ⟨h1, h2⟩ := ih a (y :: b) (by simp only [List.length_cons]; omega)
          exact ⟨h1, by simp only [keeps, h2]; omega⟩
        · rename_i hle
          obtain ⟨h1, h2⟩ := ih (x :: a) b (by simp only [List.length_cons]; omega)
          exact ⟨by simp only [app, h1, Option.map_some], by simp only [keeps, h2]; omega⟩
theorem path_app (a b : List α) : app (path a b) a = some b := (path_all _ a b (Nat.le_refl _)).1
theorem path_keeps (a b : List α) : keeps (path a b) = lc a b := (path_all _ a b (Nat.le_refl _)).2
theorem path_self : ∀ a : List α, path a a = List.replicate a.length .keep
  | [] => by rw [path_nn]; rfl
  | x :: a => by rw [path_cc, if_pos rfl, path_self a]; rfl

/-- How many it wants, how many it makes. -/
def wants : List (Op α) → Nat
  | [] => 0
  | .keep :: o => 1 + wants o
  | .drop :: o => 1 + wants o
  | .add _ :: o => wants o
theorem app_wants : ∀ (o : List (Op α)) (a : List α), (app o a).isSome = true ↔ a.length = wants o
  | [], [] => by simp [app, wants]
  | [], _ :: _ => by simp [app, wants]
  | .keep :: o, [] => by simp [app, wants]; omega
  | .keep :: o, x :: a => by have := app_wants o a; simp only [app, wants, Option.isSome_map, List.length_cons, this]; omega
  | .drop :: o, [] => by simp [app, wants]; omega
  | .drop :: o, x :: a => by have := app_wants o a; simp only [app, wants, List.length_cons, this]; omega
  | .add y :: o, a => by have := app_wants o a; simp only [app, wants, Option.isSome_map, this]

/-! pieces -/
inductive Pc (α : Type)
  | kp (n : Nat)
  | dp (n : Nat)
  | ad (y : α)
/-- What was gathered. k: 1: kept, 2: dropped. -/
def flush (k c : Nat) : List (Pc α) := if c = 0 then [] else if k = 1 then [.kp c] else [.dp c]
def rn : Nat → Nat → List (Op α) → List (Pc α)
  | k, c, [] => flush k c
  | k, c, .keep :: o => if k = 1 then rn 1 (c + 1) o else flush k c ++ rn 1 1 o
  | k, c, .drop :: o => if k = 2 then rn 2 (c + 1) o else flush k c ++ rn 2 1 o
  | k, c, .add y :: o => flush k c ++ .ad y :: rn 3 0 o
def ap : List (Pc α) → List α → Option (List α)
  | [], [] => some []
  | [], _ :: _ => none
  | .kp n :: p, x => if n ≤ x.length then (ap p (x.drop n)).map (x.take n ++ ·) else none
  | .dp n :: p, x => if n ≤ x.length then ap p (x.drop n) else none
  | .ad y :: p, x => (ap p x).map (y :: ·)
def pk : List (Pc α) → Nat
  | [] => 0
  | .kp n :: p => n + pk p
  | .dp _ :: p => pk p
  | .ad _ :: p => pk p

theorem ap_kp (n : Nat) (p : List (Pc α)) (x : List α) : ap (.kp n :: p) x = if n ≤ x.length then (ap p (x.drop n)).map (x.take n ++ ·) else none := by cases x <;> rw [ap]
theorem ap_dp (n : Nat) (p : List (Pc α)) (x : List α) : ap (.dp n :: p) x = if n ≤ x.length then ap p (x.drop n) else none := by cases x <;> rw [ap]
theorem ap_ad (y : α) (p : List (Pc α)) (x : List α) : ap (.ad y :: p) x = (ap p x).map (y :: ·) := by cases x <;> rw [ap]

/-- So many operations of a kind, then others. -/
theorem ap_rn : ∀ (o : List (Op α)) (k c : Nat) (x : List α), (k = 1 ∨ k = 2 ∨ c = 0) → ap (rn k c o) x = app (List.replicate c (if k = 1 then .keep else .drop) ++ o) x := by
  have fl : ∀ (k c : Nat) (p : List (Pc α)) (o : List (Op α)) (x : List α), (k = 1 ∨ k = 2 ∨ c = 0) → (∀ x, ap p x = app o x) → ap (flush k c ++ p) x = app (List.replicate c (if k = 1 then .keep else .drop) ++ o) x := by
    intro k c p o x hk h
    unfold flush
    by_cases hc : c = 0
    · subst hc; rw [if_pos rfl]; exact h x
    rw [if_neg hc]
    have drp : ∀ (c : Nat) (x : List α), (if c ≤ x.length then ap p (x.drop c) else none) = app (List.replicate c .drop ++ o) x := by
      intro c
      induction c with
      | zero => intro x; rw [if_pos (Nat.zero_le _)]; simp [h]
      | succ c ih =>
        intro x
        cases x with
        | nil => rw [if_neg (by simp)]; rfl
        | cons y x =>
          have := ih x
          simp only [List.replicate_succ, List.cons_append, app, ← this, List.length_cons, List.drop_succ_cons, Nat.add_le_add_iff_right]
    have kep : ∀ (c : Nat) (x : List α), (if c ≤ x.length then (ap p (x.drop c)).map (x.take c ++ ·) else none) = app (List.replicate c .keep ++ o) x := by
      intro c
      induction c with
      | zero => intro x; rw [if_pos (Nat.zero_le _)]; simp [h]
      | succ c ih =>
        intro x
        cases x with
        | nil => rw [if_neg (by simp)]; rfl
        | cons y x =>
          have := ih x
          simp only [List.replicate_succ, List.cons_append, app, ← this, List.length_cons, List.drop_succ_cons, List.take_succ_cons, Nat.add_le_add_iff_right]
          split
          · rw [Option.map_map]; rfl
          · rfl
    by_cases h1 : k = 1
    · rw [if_pos h1, if_pos h1, List.singleton_append, ap_kp]; exact kep c x
    · rw [if_neg h1, if_neg h1, List.singleton_append, ap_dp]; exact drp c x
  intro o
  induction o with
  | nil =>
    intro k c x hk
    have := fl k c [] [] x hk (fun x => by cases x <;> rfl)
    simpa [rn] using this
  | cons a o ih =>
    intro k c x hk
    cases a with
    | keep =>
      rw [rn]
      split
      · rename_i h1
        subst h1
        rw [ih 1 (c + 1) x (.inl rfl), if_pos rfl, List.replicate_succ', List.append_assoc]
        rfl
      · rename_i h1
        have := fl k c (rn 1 1 o) (.keep :: o) x hk (fun x => by rw [ih 1 1 x (.inl rfl)]; rfl)
        rw [if_neg h1] at this
        exact this
    | drop =>
      rw [rn]
      split
      · rename_i h1
        subst h1
        rw [ih 2 (c + 1) x (.inr (.inl rfl)), if_neg (by decide), List.replicate_succ', List.append_assoc]
        rfl
      · exact fl k c (rn 2 1 o) (.drop :: o) x hk (fun x => by rw [ih 2 1 x (.inr (.inl rfl))]; rfl)
    | add y =>
      rw [rn]
      refine fl k c (.ad y :: rn 3 0 o) (.add y :: o) x hk (fun x => ?_)
      rw [ap_ad, ih 3 0 x (.inr (.inr rfl))]
      rfl
theorem pk_app : ∀ (p q : List (Pc α)), pk (p ++ q) = pk p + pk q
  | [], q => by simp [pk]
  | .kp n :: p, q => by simp only [List.cons_append, pk, pk_app p q]; omega
  | .dp n :: p, q => by simp only [List.cons_append, pk, pk_app p q]
  | .ad y :: p, q => by simp only [List.cons_append, pk, pk_app p q]
theorem pk_flush (k c : Nat) : pk (flush k c : List (Pc α)) = if k = 1 then c else 0 := by
  unfold flush
  by_cases hc : c = 0
  · subst hc; simp [pk]
  · rw [if_neg hc]; split <;> simp [pk]
theorem pk_rn : ∀ (o : List (Op α)) (k c : Nat), pk (rn k c o) = (if k = 1 then c else 0) + keeps o
  | [], k, c => by rw [rn, pk_flush]; simp [keeps]
  | .keep :: o, k, c => by
    rw [rn]
    split
    · rename_i h; rw [pk_rn o]; simp only [keeps, if_true]; omega
    · rename_i h; rw [pk_app, pk_flush, pk_rn o]; simp only [keeps, if_neg h, if_true]; try omega
  | .drop :: o, k, c => by
    rw [rn]
    split
    · rename_i h; subst h; rw [pk_rn o]; simp [keeps]
    · rename_i h; rw [pk_app, pk_flush, pk_rn o]; simp [keeps]
  | .add y :: o, k, c => by rw [rn, pk_app, pk_flush]; simp [pk, pk_rn o, keeps]
end
end Go.Proofs.YtimkclpogbfciaaDoor.W

namespace Go.Proofs.YtimkclpogbfciaaDoor.W
open Go
set_option linter.unusedVariables false
set_option linter.unusedSimpArgs false

/-- The lines of a list of bytes. -/
def linesL : List UInt8 → List (List UInt8)
  | [] => []
  | c :: r => if c = 10 then [10] :: linesL r else match linesL r with
    | [] => [[c]]
    | l :: ls => (c :: l) :: ls
def piecesL : List UInt8 → List (List UInt8)
  | [] => [[]]
  | c :: r => if c = 10 then [10] :: piecesL r else match piecesL r with
    | [] => [[c]]
    | l :: ls => (c :: l) :: ls

theorem linesL_flat : ∀ b : List UInt8, (linesL b).flatten = b
  | [] => rfl
  | c :: r => by
    have ih := linesL_flat r
    unfold linesL
    split
    · rename_i h; subst h; simp [ih]
    · split
      · rename_i h; rw [h] at ih; simp at ih; subst ih; rfl
      · rename_i h; rw [h] at ih; simp at ih; simp [ih]
theorem linesL_hit : ∀ (a b : List UInt8), 10 ∉ a → linesL (a ++ 10 :: b) = (a ++ [10]) :: linesL b
  | [], b, _ => by rw [List.nil_append, linesL, if_pos rfl]; rfl
  | c :: a, b, h => by
    have hc : c ≠ 10 := fun e => h (by simp [e])
    have ha : 10 ∉ a := fun e => h (List.mem_cons_of_mem _ e)
    rw [List.cons_append, linesL, if_neg hc, linesL_hit a b ha]
    rfl
theorem linesL_none : ∀ (a : List UInt8), 10 ∉ a → a ≠ [] → linesL a = [a]
  | [], _, h => absurd rfl h
  | [c], h, _ => by
    have hc : c ≠ 10 := fun e => h (by simp [e])
    rw [linesL, if_neg hc]; rfl
  | c :: d :: a, h, _ => by
    have hc : c ≠ 10 := fun e => h (by simp [e])
    have ha : 10 ∉ d :: a := fun e => h (List.mem_cons_of_mem _ e)
    rw [linesL, if_neg hc, linesL_none (d :: a) ha (by simp)]
theorem piecesL_hit : ∀ (a b : List UInt8), 10 ∉ a → piecesL (a ++ 10 :: b) = (a ++ [10]) :: piecesL b
  | [], b, _ => by rw [List.nil_append, piecesL, if_pos rfl]; rfl
  | c :: a, b, h => by
    have hc : c ≠ 10 := fun e => h (by simp [e])
    have ha : 10 ∉ a := fun e => h (List.mem_cons_of_mem _ e)
    rw [List.cons_append, piecesL, if_neg hc, piecesL_hit a b ha]
    rfl
theorem piecesL_none : ∀ (a : List UInt8), 10 ∉ a → piecesL a = [a]
  | [], _ => rfl
  | c :: a, h => by
    have hc : c ≠ 10 := fun e => h (by simp [e])
    have ha : 10 ∉ a := fun e => h (List.mem_cons_of_mem _ e)
    rw [piecesL, if_neg hc, piecesL_none a ha]
theorem piecesL_ne : ∀ a : List UInt8, piecesL a ≠ []
  | [] => by simp [piecesL]
  | c :: a => by
    unfold piecesL
    split
    · simp
    · split <;> simp

/-- A line: not empty, no line feed but at its end. -/
def Ln (l : List UInt8) : Prop := l ≠ [] ∧ 10 ∉ l.dropLast
theorem linesL_ln : ∀ (b l : List UInt8), l ∈ linesL b → Ln l
  | [], l, h => by simp [linesL] at h
  | c :: r, l, h => by
    have ih := linesL_ln r
    unfold linesL at h
    split at h
    · rename_i hc
      rcases List.mem_cons.1 h with rfl | h
      · exact ⟨by simp, by simp⟩
      · exact ih l h
    · rename_i hc
      split at h
      · rename_i hr
        simp at h; subst h
        exact ⟨by simp, by simp⟩
      · rename_i l0 ls hr
        rcases List.mem_cons.1 h with rfl | h
        · have h0 := ih l0 (by rw [hr]; simp)
          refine ⟨by simp, ?_⟩
          obtain ⟨d, l1, rfl⟩ := List.exists_cons_of_ne_nil h0.1
          rw [List.dropLast_cons_of_ne_nil (by simp)]
          intro hm
          rcases List.mem_cons.1 hm with e | hm
          · exact hc e.symm
          · exact h0.2 hm
        · exact ih l (by rw [hr]; exact List.mem_cons_of_mem _ h)

/-- A whole line ends with its line feed. -/
def Wl (l : List UInt8) : Prop := ∃ a, 10 ∉ a ∧ l = a ++ [10]
theorem linesL_wl : ∀ (ls : List (List UInt8)) (b : List UInt8), (∀ l ∈ ls, Wl l) → linesL (ls.flatten ++ b) = ls ++ linesL b
  | [], b, _ => rfl
  | l :: ls, b, h => by
    obtain ⟨a, ha, rfl⟩ := h l (by simp)
    rw [List.flatten_cons, List.append_assoc, List.append_assoc, List.singleton_append, linesL_hit _ _ ha, linesL_wl ls b (fun x hx => h x (List.mem_cons_of_mem _ hx))]
    rfl
theorem Wl.ln {l : List UInt8} (h : Wl l) : Ln l := by
  obtain ⟨a, ha, rfl⟩ := h
  exact ⟨by simp, by simpa using ha⟩

theorem split10 : ∀ b : List UInt8, 10 ∉ b ∨ ∃ a r, 10 ∉ a ∧ b = a ++ 10 :: r
  | [] => .inl (by simp)
  | c :: b => by
    by_cases hc : c = 10
    · subst hc; exact .inr ⟨[], b, by simp, rfl⟩
    · rcases split10 b with h | ⟨a, r, h1, h2⟩
      · exact .inl (by simp [h]; exact fun e => hc e.symm)
      · exact .inr ⟨c :: a, r, by simp [h1]; exact fun e => hc e.symm, by rw [h2]; rfl⟩

theorem indexByte_hit : ∀ (a r : List UInt8) (c : UInt8), c ∉ a → Lib.indexByte (a ++ c :: r) c = a.length
  | [], r, c, _ => by simp [Lib.indexByte]
  | d :: a, r, c, h => by
    have hd : ¬ d = c := fun e => h (by simp [e])
    have ha : c ∉ a := fun e => h (List.mem_cons_of_mem _ e)
    have hb : (d == c) = false := by simpa using hd
    rw [List.cons_append, Lib.indexByte, hb, indexByte_hit a r c ha]
    have : ((a.length : Int) == -1) = false := by simp <;> omega
    simp [this]
    
theorem indexByte_miss : ∀ (a : List UInt8) (c : UInt8), c ∉ a → Lib.indexByte a c = -1
  | [], c, _ => rfl
  | d :: a, c, h => by
    have hd : ¬ d = c := fun e => h (by simp [e])
    have ha : c ∉ a := fun e => h (List.mem_cons_of_mem _ e)
    have hb : (d == c) = false := by simpa using hd
    rw [Lib.indexByte, hb, indexByte_miss a c ha]
    simp

theorem mk_data (s : ByteArray) (l : List UInt8) (h : s.data.toList = l) : s = ⟨l.toArray⟩ := by
  cases s with
  | mk a => subst h; simp
theorem ext_data {s t : ByteArray} (h : s.data.toList = t.data.toList) : s = t := by rw [mk_data s _ rfl, mk_data t _ rfl, h]
theorem size_data (s : ByteArray) : s.size = s.data.toList.length := by simp
theorem extract_data (s : ByteArray) (i j : Nat) : (s.extract i j).data.toList = (s.data.toList.drop i).take (j - i) := by
  simp [ByteArray.data_extract]

theorem pieces_eq : ∀ (k : Nat) (s : ByteArray), s.data.toList.count 10 ≤ k → (Lib.splitB nl 1 k s).map (·.data.toList) = piecesL s.data.toList := by
  intro k
  induction k with
  | zero =>
    intro s h
    have hn : 10 ∉ s.data.toList := by rw [← List.count_eq_zero]; omega
    rw [piecesL_none _ hn]; rfl
  | succ k ih =>
    intro s h
    have hix : Lib.indexB s nl = Lib.indexByte s.data.toList 10 := Lib.index_one s.data.toList 10
    rcases split10 s.data.toList with hn | ⟨a, r, ha, hs⟩
    · rw [piecesL_none _ hn, Lib.splitB_miss _ _ _ _ (by rw [hix, indexByte_miss _ _ hn])]
      rfl
    · rw [hs, piecesL_hit a r ha, Lib.splitB_hit nl 1 k s a.length (by rw [hix, hs, indexByte_hit a r 10 ha])]
      have hsz : s.size = a.length + 1 + r.length := by rw [size_data, hs]; simp; omega
      have hnl : nl.size = 1 := rfl
      have h1 : (s.extract 0 (a.length + 1)).data.toList = a ++ [10] := by
        rw [extract_data, hs, List.drop_zero, show a ++ 10 :: r = (a ++ [10]) ++ r by simp, List.take_left' (by simp)]
      have h2 : (s.extract (a.length + nl.size) s.size).data.toList = r := by
        rw [extract_data, hs, hnl, hsz]
        have : (a ++ 10 :: r).drop (a.length + 1) = r := by rw [List.drop_append]; simp
        rw [this, List.take_of_length_le (by omega)]
      rw [List.map_cons, h1, ih _ (by rw [h2]; rw [hs] at h; simp at h; omega), h2]

theorem lines_of_pieces : ∀ b : List UInt8, linesL b = if (piecesL b).getLastD [] = [] then (piecesL b).dropLast else piecesL b
  | [] => by simp [linesL, piecesL]
  | c :: r => by
    have ih := lines_of_pieces r
    have hne := piecesL_ne r
    obtain ⟨p, ps, hp⟩ := List.exists_cons_of_ne_nil hne
    unfold linesL piecesL
    by_cases hc : c = 10
    · rw [if_pos hc, if_pos hc, ih, hp]
      simp only [List.getLastD_cons, List.dropLast_cons_of_ne_nil (List.cons_ne_nil p ps)]
      split <;> rfl
    · rw [if_neg hc, if_neg hc, ih, hp]
      cases ps with
      | nil =>
        by_cases hp0 : p = []
        · subst hp0; simp
        · simp [hp0]
      | cons q qs =>
        have e1 : (p :: q :: qs).getLastD [] = qs.getLastD q := by simp only [List.getLastD_cons]
        have e2 : ((c :: p) :: q :: qs).getLastD [] = qs.getLastD q := by simp only [List.getLastD_cons]
        show _ = if ((c :: p) :: q :: qs).getLastD [] = [] then ((c :: p) :: q :: qs).dropLast else (c :: p) :: q :: qs
        rw [e1, e2]
        by_cases hl : qs.getLastD q = []
        · rw [if_pos hl, if_pos hl]; rfl
        · rw [if_neg hl, if_neg hl]

theorem linesB_eq (s : ByteArray) : (linesB s).map (·.data.toList) = linesL s.data.toList := by
  have hcnt : Lib.countB s nl = s.data.toList.count 10 := Lib.count_one 10 s.data.toList
  have hp : (piecesB s).map (·.data.toList) = piecesL s.data.toList := pieces_eq _ s (by rw [hcnt]; exact Nat.le_refl _)
  have hg : ((piecesB s).getLastD ByteArray.empty).toList = (piecesL s.data.toList).getLastD [] := by
    rw [← hp, ByteArray.toList_eq]
    simp only [List.getLastD_eq_getLast?, List.getLast?_map]
    cases (piecesB s).getLast? with
    | none => rfl
    | some x => rfl
  unfold linesB
  rw [hg, lines_of_pieces, ← hp]
  simp only [List.isEmpty_iff]
  split
  · rw [List.map_dropLast]
  · rfl
end Go.Proofs.YtimkclpogbfciaaDoor.W

namespace Go.Proofs.YtimkclpogbfciaaDoor.W
open Go
set_option linter.unusedVariables false
set_option linter.unusedSimpArgs false

def chk (n : Nat) : Bool :=
  (match Lib.atoiAll (Lib.decDigits n) with
   | .ok v => v == (n : Int)
   | _ => false) && (Lib.itoa n == Lib.decDigits n) && (Lib.decDigits n).all (fun c => decide (48 ≤ c.toNat) && decide (c.toNat ≤ 57)) &&
  (!(Lib.decDigits n).isEmpty) && ((Lib.decDigits n).foldl (fun a c => 10 * a + (c.toNat - 48)) 0 == n)
theorem chk_all : (List.range 100).all chk = true := by kernel_rfl
theorem chk_of {n : Nat} (h : n < 100) : chk n = true := List.all_eq_true.1 chk_all n (by simpa using h)
theorem dig_facts {n : Nat} (h : n < 100) : Lib.atoiAll (Lib.decDigits n) = .ok (n : Int) ∧ Lib.itoa n = Lib.decDigits n ∧ (∀ c ∈ Lib.decDigits n, 48 ≤ c.toNat ∧ c.toNat ≤ 57) ∧ Lib.decDigits n ≠ [] ∧ (Lib.decDigits n).foldl (fun a c => 10 * a + (c.toNat - 48)) 0 = n := by
  have := chk_of h
  unfold chk at this
  simp only [Bool.and_eq_true, beq_iff_eq, List.all_eq_true, decide_eq_true_eq, Bool.not_eq_true'] at this
  obtain ⟨⟨⟨⟨h1, h2⟩, h3⟩, h4⟩, h5⟩ := this
  refine ⟨?_, h2, h3, by intro e; rw [e] at h4; simp at h4, h5⟩
  split at h1
  · rename_i v hv
    rw [hv]
    simpa using h1
  · cases h1

theorem not_dig {c : UInt8} {n : Nat} (h : n < 100) (hc : c.toNat < 48 ∨ 57 < c.toNat) : c ∉ Lib.decDigits n := fun hm => by
  have := (dig_facts h).2.2.1 c hm
  omega

/-- A number that is spelt is read. -/
theorem numP_spelt {n : Nat} (h0 : 0 < n) (h : n < 100) {c : UInt8} (hc : c.toNat < 48 ∨ 57 < c.toNat) {r : List UInt8} {s : ByteArray} (hs : s.data.toList = Lib.decDigits n ++ c :: r) : numP s c = ((n : Int), ⟨r.toArray⟩, true) := by
  obtain ⟨h1, h2, h3, h4, h5⟩ := dig_facts h
  have hd := not_dig h hc
  unfold numP
  simp only
  rw [hs, indexByte_hit _ _ _ hd, if_neg (by omega), Int.toNat_natCast]
  have hsz : s.size = (Lib.decDigits n).length + 1 + r.length := by rw [size_data, hs]; simp; omega
  have e1 : s.extract 0 (Lib.decDigits n).length = ⟨(Lib.decDigits n).toArray⟩ := mk_data _ _ (by rw [extract_data, hs, List.drop_zero, Nat.sub_zero, List.take_left' rfl])
  have e2 : s.extract ((Lib.decDigits n).length + 1) s.size = ⟨r.toArray⟩ := mk_data _ _ (by
    rw [extract_data, hs, hsz]
    have : (Lib.decDigits n ++ c :: r).drop ((Lib.decDigits n).length + 1) = r := by rw [List.drop_append]; simp
    rw [this, List.take_of_length_le (by omega)])
  have e3 : atoiP ⟨(Lib.decDigits n).toArray⟩ = ((n : Int), true) := by
    unfold atoiP
    simp only [h1]
  rw [e1, e2, e3, h2]
  simp
  omega

/-- A line that can be told. -/
def Tl (y : ByteArray) : Prop := Ln y.data.toList ∧ y.size < 100

def rdr : List (Pc ByteArray) → List UInt8
  | [] => []
  | .kp n :: p => runL 61 n ++ rdr p
  | .dp n :: p => runL 45 n ++ rdr p
  | .ad y :: p => addL y ++ rdr p
/-- Pieces that can be told; b: what is told ahead of them. -/
def Gd : Nat → List (Pc ByteArray) → Prop
  | b, [] => True
  | b, .kp n :: p => b ≠ 61 ∧ 0 < n ∧ n < 100 ∧ Gd 61 p
  | b, .dp n :: p => b ≠ 45 ∧ 0 < n ∧ n < 100 ∧ Gd 45 p
  | b, .ad y :: p => Tl y ∧ Gd 43 p

theorem tail_data {d : ByteArray} {c : UInt8} {r : List UInt8} (h : d.data.toList = c :: r) : (d.extract 1 d.size).data.toList = r := by
  rw [extract_data, h]
  simp [size_data, h]
theorem join_flat (xs : List ByteArray) : Lib.join (xs.map (·.data.toList)) [] = xs.flatMap (·.data.toList) := by
  have : ∀ ls : List (List UInt8), Lib.join ls [] = ls.flatten := by
    intro ls
    unfold Lib.join
    induction ls with
    | nil => rfl
    | cons a l ih =>
      cases l with
      | nil => simp [List.intercalate]
      | cons b l =>
        rw [List.flatten_cons, ← ih]
        simp [List.intercalate, List.intersperse]
  rw [this, List.flatMap_def]

theorem addP_spelt {y : ByteArray} (hy : Tl y) {r : List UInt8} {s : ByteArray} (hs : s.data.toList = Lib.decDigits y.size ++ 58 :: (y.data.toList ++ 10 :: r)) : addP s = (y, ⟨r.toArray⟩, true) := by
  have hl : 0 < y.size := by
    rw [size_data]; exact List.length_pos_iff.2 hy.1.1
  unfold addP
  rw [numP_spelt hl hy.2 (by decide) hs]
  simp only
  have hsz : (⟨(y.data.toList ++ 10 :: r).toArray⟩ : ByteArray).size = y.size + 1 + r.length := by rw [size_data]; simp; omega
  have hd : (⟨(y.data.toList ++ 10 :: r).toArray⟩ : ByteArray).data.toList = y.data.toList ++ 10 :: r := by simp
  have hlen : y.data.toList.length = y.size := (size_data y).symm
  rw [addQ_good]
  · rw [Int.toNat_natCast]
    refine Prod.ext ?_ (Prod.ext ?_ rfl)
    · exact ext_data (by rw [extract_data, hd, List.drop_zero, Nat.sub_zero, ← hlen, List.take_left' rfl])
    · refine mk_data _ _ ?_
      show ((⟨(y.data.toList ++ 10 :: r).toArray⟩ : ByteArray).extract (y.size + 1) _).data.toList = r
      rw [extract_data, hd, hsz, ← hlen]
      have : (y.data.toList ++ 10 :: r).drop (y.data.toList.length + 1) = r := by rw [List.drop_append]; simp
      rw [this, List.take_of_length_le (by omega)]
  · refine ⟨rfl, by rw [hsz]; omega, ?_, ?_⟩
    · rw [hd, Int.toNat_natCast, ← hlen, List.getElem?_append_right (Nat.le_refl _)]; simp
    · rw [Int.toNat_natCast, extract_data, hd, List.drop_zero, Nat.sub_zero, List.take_append_of_le_length (by omega), ← hlen, ← List.dropLast_eq_take, indexByte_miss _ _ hy.1.2]
      omega

theorem runL_cons (b n : Nat) : runL b n = UInt8.ofNat b :: (Lib.decDigits n ++ [10]) := rfl

/-- What is made of lines by what was told. -/
theorem appQ_rdr : ∀ (p : List (Pc ByteArray)) (g b : Nat) (d : ByteArray) (xs : List ByteArray) (l : List UInt8), d.data.toList = rdr p → (rdr p).length ≤ g → Gd b p →
    appQ g d xs b l = (ap p xs).map fun zs => l ++ zs.flatMap (·.data.toList) := by
  intro p
  induction p with
  | nil =>
    intro g b d xs l hd hg hp
    rw [appQ_nil _ _ _ _ _ hd]
    cases xs with
    | nil => simp [ap]
    | cons x xs => rfl
  | cons q p ih =>
    intro g b d xs l hd hg hp
    cases q with
    | kp n =>
      obtain ⟨hb, h0, h1, hp⟩ := hp
      rw [rdr, runL_cons] at hd hg
      obtain ⟨g, rfl⟩ : ∃ m, g = m + 1 := ⟨g - 1, by simp at hg; omega⟩
      have hd2 : d.data.toList = 61 :: (Lib.decDigits n ++ 10 :: rdr p) := by rw [hd]; simp
      have ht := tail_data hd2
      rw [appQ_cons g _ _ _ hd2, if_neg (by decide), numP_spelt h0 h1 (by decide) ht]
      simp only [Int.toNat_natCast, ap_kp]
      by_cases hle : n ≤ xs.length
      · rw [if_pos ⟨⟨.inl (by decide), fun e => hb e.symm⟩, trivial, by omega⟩, if_pos hle, if_pos (by decide), join_flat]
        rw [show (61 : UInt8).toNat = 61 from rfl, ih g 61 _ _ _ (by simp) (by simp at hg; omega) hp, Option.map_map]
        refine congrArg (fun f => Option.map f _) (funext fun zs => ?_)
        simp
      · rw [if_neg (by rintro ⟨_, _, h⟩; omega), if_neg hle]; rfl
    | dp n =>
      obtain ⟨hb, h0, h1, hp⟩ := hp
      rw [rdr, runL_cons] at hd hg
      obtain ⟨g, rfl⟩ : ∃ m, g = m + 1 := ⟨g - 1, by simp at hg; omega⟩
      have hd2 : d.data.toList = 45 :: (Lib.decDigits n ++ 10 :: rdr p) := by rw [hd]; simp
      have ht := tail_data hd2
      rw [appQ_cons g _ _ _ hd2, if_neg (by decide), numP_spelt h0 h1 (by decide) ht]
      simp only [Int.toNat_natCast, ap_dp]
      by_cases hle : n ≤ xs.length
      · rw [if_pos ⟨⟨.inr (by decide), fun e => hb e.symm⟩, trivial, by omega⟩, if_pos hle, if_neg (by decide)]
        rw [show (45 : UInt8).toNat = 45 from rfl, ih g 45 _ _ _ (by simp) (by simp at hg; omega) hp]
      · rw [if_neg (by rintro ⟨_, _, h⟩; omega), if_neg hle]; rfl
    | ad y =>
      obtain ⟨hy, hp⟩ := hp
      rw [rdr, addL] at hd hg
      obtain ⟨g, rfl⟩ : ∃ m, g = m + 1 := ⟨g - 1, by simp at hg; omega⟩
      have hd2 : d.data.toList = 43 :: (Lib.decDigits y.size ++ 58 :: (y.data.toList ++ 10 :: rdr p)) := by rw [hd]; simp
      have ht := tail_data hd2
      rw [appQ_cons g _ _ _ hd2, if_pos (by decide), addP_spelt hy ht, if_pos rfl, ap_ad]
      rw [ih g 43 _ _ _ (by simp) (by simp at hg; omega) hp, Option.map_map]
      refine congrArg (fun f => Option.map f _) (funext fun zs => ?_)
      simp
end Go.Proofs.YtimkclpogbfciaaDoor.W

namespace Go.Proofs.YtimkclpogbfciaaDoor.W
open Go
set_option linter.unusedVariables false
set_option linter.unusedSimpArgs false

/-- A kind's byte. -/
def kb (k : Nat) : Nat := if k = 1 then 61 else if k = 2 then 45 else if k = 3 then 43 else 0
def adds : List (Op ByteArray) → List ByteArray
  | [] => []
  | .add y :: o => y :: adds o
  | .keep :: o => adds o
  | .drop :: o => adds o

theorem gd_rn : ∀ (o : List (Op ByteArray)), (∀ y ∈ adds o, Tl y) → ∀ (b c : Nat), c + wants o < 100 →
    ((0 < c → b ≠ 61 → Gd b (rn 1 c o)) ∧ (0 < c → b ≠ 45 → Gd b (rn 2 c o))) ∧ (c = 0 → b ≠ 61 → b ≠ 45 → ∀ k, k ≠ 1 → k ≠ 2 → Gd b (rn k 0 o)) := by
  intro o
  induction o with
  | nil =>
    intro _ b c hc
    refine ⟨⟨fun h0 hb => ?_, fun h0 hb => ?_⟩, fun _ _ _ k _ _ => ?_⟩
    · simp only [rn, flush, if_neg (Nat.ne_of_gt h0), if_true]
      exact ⟨hb, h0, by simp [wants] at hc; omega, trivial⟩
    · simp only [rn, flush, if_neg (Nat.ne_of_gt h0)]
      exact ⟨hb, h0, by simp [wants] at hc; omega, trivial⟩
    · simp only [rn, flush, if_true]; trivial
  | cons a o ih =>
    intro hy b c hc
    cases a with
    | keep =>
      have ih := ih hy
      simp only [wants] at hc
      refine ⟨⟨fun h0 hb => ?_, fun h0 hb => ?_⟩, fun h0 hb hb2 k hk hk2 => ?_⟩
      · rw [rn, if_pos rfl]
        exact (ih b (c + 1) (by omega)).1.1 (by omega) hb
      · rw [rn, if_neg (by decide), flush, if_neg (Nat.ne_of_gt h0), if_neg (by decide)]
        exact ⟨hb, h0, by omega, (ih 45 1 (by omega)).1.1 (by omega) (by decide)⟩
      · subst h0
        rw [rn, if_neg hk, flush, if_pos rfl]
        exact (ih b 1 (by omega)).1.1 (by omega) hb
    | drop =>
      have ih := ih hy
      simp only [wants] at hc
      refine ⟨⟨fun h0 hb => ?_, fun h0 hb => ?_⟩, fun h0 hb hb2 k hk hk2 => ?_⟩
      · rw [rn, if_neg (by decide), flush, if_neg (Nat.ne_of_gt h0), if_pos rfl]
        exact ⟨hb, h0, by omega, (ih 61 1 (by omega)).1.2 (by omega) (by decide)⟩
      · rw [rn, if_pos rfl]
        exact (ih b (c + 1) (by omega)).1.2 (by omega) hb
      · subst h0
        rw [rn, if_neg hk2, flush, if_pos rfl]
        exact (ih b 1 (by omega)).1.2 (by omega) hb2
    | add y =>
      have ih := ih (fun z hz => hy z (by simp [adds, hz]))
      have hyt := hy y (by simp [adds])
      simp only [wants] at hc
      have hz := (ih 43 0 (by omega)).2 rfl (by decide) (by decide) 3 (by decide) (by decide)
      refine ⟨⟨fun h0 hb => ?_, fun h0 hb => ?_⟩, fun h0 hb hb2 k hk hk2 => ?_⟩
      · rw [rn, flush, if_neg (Nat.ne_of_gt h0), if_pos rfl]
        exact ⟨hb, h0, by omega, hyt, hz⟩
      · rw [rn, flush, if_neg (Nat.ne_of_gt h0), if_neg (by decide)]
        exact ⟨hb, h0, by omega, hyt, hz⟩
      · subst h0
        rw [rn, flush, if_pos rfl]
        exact ⟨hyt, hz⟩

theorem path_adds : ∀ (m : Nat) (a b : List ByteArray), a.length + b.length ≤ m → ∀ y ∈ adds (path a b), y ∈ b := by
  intro m
  induction m with
  | zero =>
    intro a b h
    have ha : a = [] := List.eq_nil_of_length_eq_zero (by omega)
    have hb : b = [] := List.eq_nil_of_length_eq_zero (by omega)
    subst ha; subst hb
    rw [path_nn]; simp [adds]
  | succ m ih =>
    intro a b h
    match a, b with
    | [], [] => rw [path_nn]; simp [adds]
    | [], y :: b =>
      rw [path_nc]
      have := ih [] b (by simp only [List.length_cons] at h; omega)
      simp only [adds, List.mem_cons]
      rintro z (rfl | hz)
      · exact .inl rfl
      · exact .inr (this z hz)
    | x :: a, [] =>
      rw [path_cn]
      have := ih a [] (by simp only [List.length_cons] at h; omega)
      simpa only [adds] using this
    | x :: a, y :: b =>
      simp only [List.length_cons] at h
      rw [path_cc]
      split
      · have := ih a b (by omega)
        simp only [adds, List.mem_cons]
        exact fun z hz => .inr (this z hz)
      · split
        · have := ih a (y :: b) (by simp only [List.length_cons]; omega)
          simpa only [adds] using this
        · have := ih (x :: a) b (by simp only [List.length_cons]; omega)
          simp only [adds, List.mem_cons]
          rintro z (rfl | hz)
          · exact .inl rfl
          · exact .inr (this z hz)
theorem path_wants (a b : List ByteArray) : wants (path a b) = a.length := ((app_wants (path a b) a).1 (by rw [path_app]; rfl)).symm

theorem ofB_eq (x y : ByteArray) : ((x.toList == y.toList) = true) ↔ x = y := by
  rw [beq_iff_eq, ByteArray.toList_eq, ByteArray.toList_eq]
  exact ⟨ext_data, fun h => by rw [h]⟩

theorem getD_drop {xs : List ByteArray} {i : Nat} (h : i < xs.length) : xs.drop i = xs.getD i ByteArray.empty :: xs.drop (i + 1) := by
  rw [List.drop_eq_getElem_cons h, List.getD_eq_getElem?_getD, List.getElem?_eq_getElem h]; rfl

theorem dropN {xs : List ByteArray} {i : Nat} (h : xs.length ≤ i) : xs.drop i = [] := List.drop_eq_nil_of_le h
theorem tabL_lc (xs ys : List ByteArray) : ∀ (m i j : Nat), (xs.length - i) + (ys.length - j) ≤ m → tabL (fun i => xs.getD i ByteArray.empty) (fun i => ys.getD i ByteArray.empty) xs.length ys.length i j = (lc (xs.drop i) (ys.drop j) : Nat) := by
  intro m
  induction m with
  | zero =>
    intro i j h
    rw [tabL_ends _ _ _ _ _ _ (by omega), List.drop_eq_nil_of_le (by omega), lc_nil_l]; rfl
  | succ m ih =>
    intro i j h
    by_cases hi : i < xs.length
    · by_cases hj : j < ys.length
      · rw [tabL_step _ _ _ _ _ _ hi hj, ih _ _ (by omega), ih _ _ (by omega), ih _ _ (by omega), getD_drop hi, getD_drop hj]
        by_cases he : xs.getD i ByteArray.empty = ys.getD j ByteArray.empty
        · rw [if_pos ((ofB_eq _ _).2 he), he, lc_eq]; omega
        · rw [if_neg (fun h => he ((ofB_eq _ _).1 h)), lc_ne he]; omega
      · rw [tabL_ends _ _ _ _ _ _ (by omega), dropN (xs := ys) (by omega), lc_nil_r]; rfl
    · rw [tabL_ends _ _ _ _ _ _ (by omega), List.drop_eq_nil_of_le (by omega), lc_nil_l]; rfl

theorem rdr_app : ∀ (p q : List (Pc ByteArray)), rdr (p ++ q) = rdr p ++ rdr q
  | [], q => rfl
  | .kp n :: p, q => by simp only [List.cons_append, rdr, rdr_app p q, List.append_assoc]
  | .dp n :: p, q => by simp only [List.cons_append, rdr, rdr_app p q, List.append_assoc]
  | .ad y :: p, q => by simp only [List.cons_append, rdr, rdr_app p q, List.append_assoc]

theorem rdr_flush {k c : Nat} (hk : k = 1 ∨ k = 2 ∨ c = 0) : ∀ kv, kv ≠ kb k → rdr (flush k c) = nextL (kb k) c kv := by
  intro kv hkv
  by_cases hc : c = 0
  · subst hc; simp [flush, nextL, rdr]
  · have hn : nextL (kb k) c kv = runL (kb k) c := if_pos ⟨hkv, by omega⟩
    rw [hn, flush, if_neg hc]
    rcases hk with rfl | rfl | h
    · simp [rdr, kb]
    · simp [rdr, kb]
    · exact absurd h hc

theorem ofGo_path (xs ys : List ByteArray) : ∀ (m i j k c : Nat), (xs.length - i) + (ys.length - j) ≤ m → (k = 1 ∨ k = 2 ∨ c = 0) → (k = 0 → c = 0) → k ≤ 3 →
    ofGo (fun i => xs.getD i ByteArray.empty) (fun i => ys.getD i ByteArray.empty) xs.length ys.length m i j (kb k) c = rdr (rn k c (path (xs.drop i) (ys.drop j))) := by
  have fin : ∀ k c : Nat, (k = 1 ∨ k = 2 ∨ c = 0) → nextL (kb k) c 0 = rdr (rn k c (path [] ([] : List ByteArray))) := by
    intro k c hk
    rw [path_nn, rn]
    by_cases hc : c = 0
    · subst hc; simp [nextL, flush, rdr]
    · exact (rdr_flush hk 0 (by unfold kb; rcases hk with rfl | rfl | h <;> simp; exact absurd h hc)).symm
  intro m
  induction m with
  | zero =>
    intro i j k c h hk _ _
    rw [List.drop_eq_nil_of_le (by omega), List.drop_eq_nil_of_le (by omega)]
    exact fin k c hk
  | succ m ih =>
    intro i j k c h hk hk0 hk3
    unfold ofGo
    have keep : ∀ o : List (Op ByteArray), (∀ c, ofGo (fun i => xs.getD i ByteArray.empty) (fun i => ys.getD i ByteArray.empty) xs.length ys.length m (i + 1) (j + 1) 61 (c + 1) = rdr (rn 1 (c + 1) o)) → nextL (kb k) c 61 ++ ofGo (fun i => xs.getD i ByteArray.empty) (fun i => ys.getD i ByteArray.empty) xs.length ys.length m (i + 1) (j + 1) 61 (nextC (kb k) c 61 + 1) = rdr (rn k c (.keep :: o)) := by
      intro o ho
      rw [ho, rn]
      by_cases h1 : k = 1
      · subst h1; rw [if_pos rfl]; simp [nextL, nextC, kb]
      · have hne : 61 ≠ kb k := by
          unfold kb
          rw [if_neg h1]
          split
          · decide
          · split <;> decide
        rw [if_neg h1, rdr_app, rdr_flush hk 61 hne]
        congr 2
        unfold nextC
        by_cases hc : 0 < c
        · rw [if_pos ⟨hne, hc⟩]
        · rw [if_neg (fun h => hc h.2), show c = 0 by omega]
    have drp : ∀ o : List (Op ByteArray), (∀ c, ofGo (fun i => xs.getD i ByteArray.empty) (fun i => ys.getD i ByteArray.empty) xs.length ys.length m (i + 1) j 45 (c + 1) = rdr (rn 2 (c + 1) o)) → nextL (kb k) c 45 ++ ofGo (fun i => xs.getD i ByteArray.empty) (fun i => ys.getD i ByteArray.empty) xs.length ys.length m (i + 1) j 45 (nextC (kb k) c 45 + 1) = rdr (rn k c (.drop :: o)) := by
      intro o ho
      rw [ho, rn]
      by_cases h1 : k = 2
      · subst h1; rw [if_pos rfl]; simp [nextL, nextC, kb]
      · have hne : 45 ≠ kb k := by
          unfold kb
          split
          · decide
          · split <;> decide
        rw [if_neg h1, rdr_app, rdr_flush hk 45 hne]
        congr 2
        unfold nextC
        by_cases hc : 0 < c
        · rw [if_pos ⟨hne, hc⟩]
        · rw [if_neg (fun h => hc h.2), show c = 0 by omega]
    have ad : ∀ (o : List (Op ByteArray)) (y : ByteArray), ofGo (fun i => xs.getD i ByteArray.empty) (fun i => ys.getD i ByteArray.empty) xs.length ys.length m i (j + 1) 43 0 = rdr (rn 3 0 o) → nextL (kb k) c 43 ++ (addL y ++ ofGo (fun i => xs.getD i ByteArray.empty) (fun i => ys.getD i ByteArray.empty) xs.length ys.length m i (j + 1) 43 (nextC (kb k) c 43)) = rdr (rn k c (.add y :: o)) := by
      intro o y ho
      rw [rn, rdr_app]
      have hC : nextC (kb k) c 43 = 0 := by
        unfold nextC
        by_cases hc : 0 < c
        · rw [if_pos ⟨by unfold kb; rcases hk with rfl | rfl | h <;> simp; omega, hc⟩]
        · rw [if_neg (fun h => hc h.2)]; omega
      rw [hC, ho]
      have hF : rdr (flush k c) = nextL (kb k) c 43 := by
        by_cases hc : c = 0
        · subst hc; simp [flush, nextL, rdr]
        · exact rdr_flush hk 43 (by unfold kb; rcases hk with rfl | rfl | h <;> simp; exact absurd h hc)
      rw [hF]; rfl
    by_cases hi : i < xs.length
    · by_cases hj : j < ys.length
      · rw [getD_drop hi, getD_drop hj, path_cc]
        by_cases he : xs.getD i ByteArray.empty = ys.getD j ByteArray.empty
        · rw [if_pos ⟨hi, hj, (ofB_eq _ _).2 he⟩, if_pos he]
          exact keep _ fun c => ih (i + 1) (j + 1) 1 (c + 1) (by omega) (.inl rfl) (by simp) (by decide)
        · rw [if_neg (fun h => he ((ofB_eq _ _).1 h.2.2)), if_neg he]
          rw [tabL_lc xs ys _ i (j + 1) (Nat.le_refl _), tabL_lc xs ys _ (i + 1) j (Nat.le_refl _), ← getD_drop hi, ← getD_drop hj]
          by_cases hle : lc (xs.drop i) (ys.drop (j + 1)) ≤ lc (xs.drop (i + 1)) (ys.drop j)
          · rw [if_pos ⟨hi, .inr (by omega)⟩, if_pos hle]
            exact drp _ fun c => ih (i + 1) j 2 (c + 1) (by omega) (.inr (.inl rfl)) (by simp) (by decide)
          · rw [if_neg (by rintro ⟨_, h | h⟩ <;> omega), if_neg hle, if_pos hj]
            exact ad _ _ (ih i (j + 1) 3 0 (by omega) (.inr (.inr rfl)) (by simp) (by decide))
      · rw [if_neg (by omega), if_pos ⟨hi, .inr (by rw [tabL_ends _ _ _ _ _ _ (by omega), tabL_ends _ _ _ _ _ _ (by omega)]; exact Int.le_refl _)⟩, getD_drop hi, dropN (xs := ys) (by omega), path_cn]
        refine drp _ fun c => ?_
        have := ih (i + 1) j 2 (c + 1) (by omega) (.inr (.inl rfl)) (by simp) (by decide)
        rw [dropN (xs := ys) (by omega)] at this
        exact this
    · by_cases hj : j < ys.length
      · rw [if_neg (by omega), if_neg (by omega), if_pos hj, getD_drop hj, dropN (xs := xs) (by omega), path_nc]
        refine ad _ _ ?_
        have := ih i (j + 1) 3 0 (by omega) (.inr (.inr rfl)) (by simp) (by decide)
        rw [dropN (xs := xs) (by omega)] at this
        exact this
      · rw [if_neg (by omega), if_neg (by omega), if_neg hj, dropN (xs := ys) (by omega), dropN (xs := xs) (by omega)]
        exact fin k c hk

/-- What diff.Of tells. -/
def pcs (xs ys : List ByteArray) : List (Pc ByteArray) := rn 0 0 (path xs ys)
theorem ofS_rdr (xs ys : List ByteArray) : ofS xs ys = rdr (pcs xs ys) := by
  rw [← ofL_S]
  exact ofGo_path xs ys _ 0 0 0 0 (by omega) (.inr (.inr rfl)) (fun _ => rfl) (by decide)
theorem pcs_gd {xs ys : List ByteArray} (hx : xs.length < 100) (hy : ∀ y ∈ ys, Tl y) : Gd 0 (pcs xs ys) :=
  (gd_rn (path xs ys) (fun y h => hy y (path_adds _ xs ys (Nat.le_refl _) y h)) 0 0 (by rw [path_wants]; omega)).2 rfl (by decide) (by decide) 0 (by decide) (by decide)
theorem pcs_ap (xs ys zs : List ByteArray) : ap (pcs xs ys) zs = app (path xs ys) zs := by
  have := ap_rn (path xs ys) 0 0 zs (.inr (.inr rfl))
  simpa [pcs] using this
theorem pcs_pk (xs ys : List ByteArray) : pk (pcs xs ys) = lc xs ys := by
  have := pk_rn (path xs ys) 0 0
  rw [path_keeps] at this
  simpa [pcs] using this
end Go.Proofs.YtimkclpogbfciaaDoor.W

