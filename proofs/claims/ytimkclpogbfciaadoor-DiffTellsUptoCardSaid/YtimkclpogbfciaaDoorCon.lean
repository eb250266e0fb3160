/- Chapter 7's functions that were walked by hand, as contracts of the engine. No conditions. -/
import Derived.Test.YtimkclpogbfciaaDoorExt
import Derived.Test.YtimkclpogbfciaaDoorEngWH
import Derived.Test.YtimkclpogbfciaaDoorApl
namespace Go.Proofs.YtimkclpogbfciaaDoor.W
open Go Go.Eng Go.RowKit
set_option linter.unusedVariables false
set_option linter.unusedSimpArgs false

/-- A contract of the engine over single cells, as a contract of the kit. -/
theorem calls_flat {f : FuncId} {xs : List Value} {rv : V} (h : FuncOk Tryd.prog f (xs.map fun x => V.t (T.sc x)) [] rv []) (hx : ∀ x ∈ xs, flat x = true) (w : World) (hT : Tabs Tryd.prog w) :
    Calls Tryd.prog f xs.toArray w fun e w' => (∃ v g', e = .returned v ∧ RelV w' g' .res rv v) ∧ Below w.heap.size w w' := by
  have hW : WF Tryd.prog w ⟨fun _ => none, fun _ => none, fun _ => none⟩ :=
    ⟨fun b lim hh => (by cases hh), fun id b hh => (by cases hh), fun b hh => (by cases hh), fun b l hh => (by cases hh), fun b hb => ⟨(hT b hb).1, (hT b hb).2, rfl, fun id => by simp⟩⟩
  refine (h.1 w ⟨fun _ => none, fun _ => none, fun _ => none⟩ xs.toArray (by simp) ?_ ⟨fun id b hh => (by cases hh), fun id id' b hh => (by cases hh), fun id b hh => (by cases hh)⟩ hW (fun b l hh => (by cases hh)) (fun id b hh => (by cases hh))).mono ?_
  · intro i v x hv hx'
    rw [List.getElem?_map] at hv
    obtain ⟨y, hy, rfl⟩ := Option.map_eq_some_iff.1 hv
    have : x = y := by
      have h2 : xs[i]? = some x := by simpa using hx'
      rw [hy] at h2
      exact (Option.some.inj h2).symm
    subst this
    simp only [RelV]
    exact .sc _ (hx _ (List.mem_of_getElem? hy))
  · rintro e w' ⟨x, g', rfl, hr, _, _, hE, _⟩
    exact ⟨⟨x, g', rfl, hr⟩, hE.os, hE.tape, hE.output, hE.size, fun k hk => (hE.old k hk (fun id hh => by cases hh) rfl).1⟩

def linesM (a : ByteArray) : Option (List T) := bif decide (a.size < 4294967281) then some ((linesB a).map fun s => T.sc (.string s)) else none
theorem x_diff_Lines {a0 : ByteArray} {r : List T} (h : linesM a0 = some r) : FuncOk Tryd.prog 10 [V.t (T.sc (.string a0))] [] (V.t (T.list r)) [] := by
  unfold linesM at h
  cases hb : decide (a0.size < 4294967281) with
  | false => simp [hb] at h
  | true =>
    rw [hb, cond_true] at h
    simp only [Option.some.injEq] at h
    subst h
    have hs : a0.size < 4294967281 := by simpa using hb
    refine ext_any Tryd.func10 (by kernel_rfl) (by kernel_rfl) (fun w g args hsz hrel hW _ => ?_)
    obtain ⟨x0, rfl, h0⟩ := args1 hsz hrel
    obtain rfl := rel_sc h0
    refine (lines_walk a0 w hs).mono ?_
    rintro e w' ⟨rfl, rfl⟩
    have hcell := lines_cell a0 w
    have hbel : Below w.heap.size w (w.alloc (.cells (Lib.cellsOf (piecesB a0) (Lib.countB a0 nl + 1)) 9)) := (Below.refl _ _).alloc (Nat.le_refl _) _
    refine ⟨_, fun b => if b = w.heap.size then some (linesB a0).length else g.F b, rfl, fun b hb => if_neg (by omega), fun b lim hb => ?_, ?_, hbel⟩
    · by_cases hbs : b = w.heap.size
      · subst hbs; simp
      · have hb' : (if b = w.heap.size then some (linesB a0).length else g.F b) = some lim := hb
        rw [if_neg hbs] at hb'; exact Nat.lt_of_lt_of_le (hW.lt b lim hb') hbel.size
    · simp only [RelV]
      have hl : (linesB a0).length = ((linesB a0).map fun s => T.sc (.string s)).length := by simp
      have hfl : ((linesB a0).map fun s => T.sc (.string s)).flatMap T.cells = (linesB a0).map fun s => T.sc (.string s) := by
        generalize linesB a0 = ls
        induction ls with
        | nil => rfl
        | cons s l ih => rw [List.map_cons, List.flatMap_cons, ih]; rfl
      have hRL : RList (w.alloc (.cells (Lib.cellsOf (piecesB a0) (Lib.countB a0 nl + 1)) 9)) (fun b => if b = w.heap.size then some (linesB a0).length else g.F b) 1 ((linesB a0).map fun s => T.sc (.string s)) w.heap.size 0 (linesB a0).length := by
        refine ⟨if_pos rfl, by simp, by decide, ?_, ?_⟩
        · intro y hy
          obtain ⟨s, _, rfl⟩ := List.mem_map.1 hy
          rfl
        · intro k x hx
          rw [hfl, List.getElem?_map] at hx
          obtain ⟨s, hs2, rfl⟩ := Option.map_eq_some_iff.1 hx
          have hk := (List.getElem?_eq_some_iff.1 hs2).1
          refine ⟨.string s, ?_, .sc _ rfl⟩
          rw [Nat.zero_add, hcell k hk, List.getD_eq_getElem?_getD, hs2]
          rfl
      have := RT.ofList hRL (cap := (linesB a0).length) (by simp)
      rw [← hl] at this
      exact this

/-- The table's numbers, by a bound on the steps. -/
def tabS (X Y : Nat → ByteArray) : Nat → Nat → Nat → Nat → Nat → Int
  | 0, _, _, _, _ => 0
  | m + 1, a, b, p, q => match p, q with
    | 0, _ => 0
    | _, 0 => 0
    | p + 1, q + 1 => if ((X a).toList == (Y b).toList) = true then 1 + tabS X Y m (a + 1) (b + 1) p q else max (tabS X Y m (a + 1) b p (q + 1)) (tabS X Y m a (b + 1) (p + 1) q)
theorem tabN_S (X Y : Nat → ByteArray) : ∀ (m a b p q : Nat), p + q ≤ m → tabN X Y a b p q = tabS X Y m a b p q := by
  intro m
  induction m with
  | zero => intro a b p q h; obtain rfl : p = 0 := by omega
            unfold tabN; rfl
  | succ m ih =>
    intro a b p q h
    cases p with
    | zero => unfold tabN; rfl
    | succ p => cases q with
      | zero => unfold tabN; rfl
      | succ q =>
        unfold tabN
        show _ = if ((X a).toList == (Y b).toList) = true then 1 + tabS X Y m (a + 1) (b + 1) p q else max (tabS X Y m (a + 1) b p (q + 1)) (tabS X Y m a (b + 1) (p + 1) q)
        rw [ih _ _ p q (by omega), ih _ _ p (q + 1) (by omega), ih _ _ (p + 1) q (by omega)]
def ofGoS (X Y : Nat → ByteArray) (A B : Nat) : Nat → Nat → Nat → Nat → Nat → List UInt8
  | 0, i, j, rv, c => nextL rv c 0
  | m + 1, i, j, rv, c =>
    if i < A ∧ j < B ∧ ((X i).toList == (Y j).toList) = true then nextL rv c 61 ++ ofGoS X Y A B m (i + 1) (j + 1) 61 (nextC rv c 61 + 1)
    else if i < A ∧ (j = B ∨ tabS X Y (A + B) i (j + 1) (A - i) (B - (j + 1)) ≤ tabS X Y (A + B) (i + 1) j (A - (i + 1)) (B - j)) then nextL rv c 45 ++ ofGoS X Y A B m (i + 1) j 45 (nextC rv c 45 + 1)
    else if j < B then nextL rv c 43 ++ (addL (Y j) ++ ofGoS X Y A B m i (j + 1) 43 (nextC rv c 43))
    else nextL rv c 0
theorem ofGo_S (X Y : Nat → ByteArray) (A B : Nat) : ∀ (m i j rv c : Nat), ofGo X Y A B m i j rv c = ofGoS X Y A B m i j rv c
  | 0, i, j, rv, c => rfl
  | m + 1, i, j, rv, c => by
    unfold ofGo ofGoS
    simp only [ofGo_S X Y A B m, tabL, tabN_S X Y (A + B) i (j + 1) (A - i) (B - (j + 1)) (by omega), tabN_S X Y (A + B) (i + 1) j (A - (i + 1)) (B - j) (by omega)]
def ofS (xs ys : List ByteArray) : List UInt8 := ofGoS (fun i => xs.getD i ByteArray.empty) (fun i => ys.getD i ByteArray.empty) xs.length ys.length (xs.length + ys.length) 0 0 0 0
theorem ofL_S (xs ys : List ByteArray) : ofL xs ys = ofS xs ys := ofGo_S _ _ _ _ _ _ _ _ _

def ofM (a b : ByteArray) : Option ByteArray := bif decide (a.size < 4294967281) && (decide (b.size < 4294967281) && (decide ((linesB a).length < 100) && (decide ((linesB b).length < 100) && (linesB b).all fun y => decide (y.size < 100)))) then some ⟨(ofS (linesB a) (linesB b)).toArray⟩ else none
theorem x_diff_Of {a0 a1 r : ByteArray} (h : ofM a0 a1 = some r) : FuncOk Tryd.prog 12 [V.t (T.sc (.string a0)), V.t (T.sc (.string a1))] [] (V.t (T.sc (.string r))) [] := by
  unfold ofM at h
  cases hb : decide (a0.size < 4294967281) && (decide (a1.size < 4294967281) && (decide ((linesB a0).length < 100) && (decide ((linesB a1).length < 100) && (linesB a1).all fun y => decide (y.size < 100)))) with
  | false => simp [hb] at h
  | true =>
    rw [hb, cond_true] at h
    simp only [Option.some.injEq] at h
    subst h
    simp only [Bool.and_eq_true, decide_eq_true_eq, List.all_eq_true] at hb
    obtain ⟨h1, h2, h3, h4, h5⟩ := hb
    rw [← ofL_S]
    exact ext_ok (xs := [.string a0, .string a1]) Tryd.func12 (by kernel_rfl) (by kernel_rfl) (by simp [flat]) rfl (fun w _ => of_walk a0 a1 w h1 h2 h3 h4 (fun i hi => by
      rw [List.getD_eq_getElem?_getD, List.getElem?_eq_getElem hi]
      exact h5 _ (List.getElem_mem hi)))

def applyM (a b : ByteArray) : Option (ByteArray × Int) := bif decide (a.size < 4294967281) && decide (b.size + sumL (linesB a) ≤ 140737488355328) then some (applyP a b) else none
theorem x_diff_Apply {a0 a1 : ByteArray} {r : ByteArray × Int} (h : applyM a0 a1 = some r) : FuncOk Tryd.prog 9 [V.t (T.sc (.string a0)), V.t (T.sc (.string a1))] [] (V.tup [V.t (T.sc (.string r.1)), V.t (T.sc (.int .i64 r.2))]) [] := by
  unfold applyM at h
  cases hb : decide (a0.size < 4294967281) && decide (a1.size + sumL (linesB a0) ≤ 140737488355328) with
  | false => simp [hb] at h
  | true =>
    rw [hb, cond_true] at h
    simp only [Option.some.injEq] at h
    subst h
    simp only [Bool.and_eq_true, decide_eq_true_eq] at hb
    exact ext_gen (xs := [.string a0, .string a1]) Tryd.func9 (by kernel_rfl) (by kernel_rfl) (by simp [flat]) fun w hT => (apply_walk a0 a1 w hb.1 hb.2 hT).mono fun e w' ⟨he, hw⟩ => ⟨⟨_, he, fun _ _ _ => by simp only [RelV, RelL]; exact ⟨_, rfl, .sc _ rfl, .sc _ rfl, trivial⟩⟩, hw⟩

def hasM (a b : ByteArray) : Option Bool := match b.data.toList with
  | [c] => some (decide (0 ≤ Lib.indexByte a.data.toList c))
  | _ => none
theorem x_strings_Contains {a0 a1 : ByteArray} {r : Bool} (h : hasM a0 a1 = some r) : FuncOk Tryd.prog 35 [V.t (T.sc (.string a0)), V.t (T.sc (.string a1))] [] (V.t (T.sc (.bool r))) [] := by
  unfold hasM at h
  split at h
  · rename_i c hc
    simp only [Option.some.injEq] at h
    subst h
    obtain rfl : a1 = ⟨#[c]⟩ := by
      cases a1 with
      | mk d => cases d with
        | mk l => simp at hc; subst hc; rfl
    exact ext_ok (xs := [.string a0, .string ⟨#[c]⟩]) Tryd.func35 (by kernel_rfl) (by kernel_rfl) (by simp [flat]) rfl (fun w _ => (Tryd.strings_Contains_one a0 c w).mono fun e w' ⟨he, hw⟩ => ⟨he, by rw [hw]; exact Below.refl _ _⟩)
  · cases h

def strsOf : List T → Option (List ByteArray)
  | [] => some []
  | .sc (.string s) :: r => (strsOf r).map (s :: ·)
  | _ => none
def joinL (xs : List ByteArray) (sep : ByteArray) : List UInt8 := Lib.join (xs.map (·.data.toList)) sep.data.toList
def joinM (a : List T) (sep : ByteArray) : Option ByteArray := match strsOf a with
  | some xs => bif decide (xs.length ≤ 140737488355328) && decide ((joinL xs sep).length ≤ 140737488355328) then some ⟨(joinL xs sep).toArray⟩ else none
  | none => none

theorem strsOf_map : ∀ {a : List T} {xs : List ByteArray}, strsOf a = some xs → a = xs.map fun s => T.sc (.string s)
  | [], xs, h => by simp only [strsOf, Option.some.injEq] at h; subst h; rfl
  | .sc (.string s) :: r, xs, h => by
    simp only [strsOf] at h
    obtain ⟨ys, h1, h2⟩ := Option.map_eq_some_iff.1 h
    subst h2
    rw [strsOf_map h1]
    rfl
  | .list _ :: _, xs, h => by simp [strsOf] at h
  | .agg _ :: _, xs, h => by simp [strsOf] at h
  | .vac :: _, xs, h => by simp [strsOf] at h
  | .sc v :: r, xs, h => by
    cases v with
    | string s =>
      simp only [strsOf] at h
      obtain ⟨ys, h1, h2⟩ := Option.map_eq_some_iff.1 h
      subst h2
      rw [strsOf_map h1]
      rfl
    | _ => simp [strsOf] at h

theorem x_strings_Join {a0 : List T} {a1 r : ByteArray} (h : joinM a0 a1 = some r) : FuncOk Tryd.prog 24 [V.t (T.list a0), V.t (T.sc (.string a1))] [] (V.t (T.sc (.string r))) [] := by
  unfold joinM at h
  split at h
  · rename_i xs hxs
    cases hb : decide (xs.length ≤ 140737488355328) && decide ((joinL xs a1).length ≤ 140737488355328) with
    | false => simp [hb] at h
    | true =>
      rw [hb, cond_true] at h
      simp only [Option.some.injEq] at h
      subst h
      simp only [Bool.and_eq_true, decide_eq_true_eq] at hb
      have hmap := strsOf_map hxs
      refine ext_any Tryd.func24 (by kernel_rfl) (by kernel_rfl) ?_
      intro w g args hsz hrel hW hT
      obtain ⟨x0, x1, rfl, r0, r1⟩ := args2 hsz hrel
      obtain rfl := rel_sc r1
      simp only [RelV] at r0
      have fin : ∀ {e : Ending} {w' : World}, e = .returned (.string ⟨(joinL xs a1).toArray⟩) → Below w.heap.size w w' →
          ∃ v F', e = .returned v ∧ (∀ b, b < w.heap.size → F' b = g.F b) ∧ (∀ b lim, F' b = some lim → b < w'.heap.size) ∧ RelV w' ⟨F', g.φ, fun _ => none⟩ .res (V.t (T.sc (.string ⟨(joinL xs a1).toArray⟩))) v ∧ Below w.heap.size w w' := by
        intro e w' he hbel
        refine ⟨_, g.F, he, fun _ _ => rfl, fun b lim hb => Nat.lt_of_lt_of_le (hW.lt b lim hb) hbel.size, ?_, hbel⟩
        simp only [RelV]
        exact .sc _ rfl
      rcases r0.toList with ⟨he, hbare⟩ | ⟨b, o, cap, sz, lim, rfl, hcap, hl⟩
      · subst he
        have hx : xs = [] := by simpa using hmap
        subst hx
        have hj : joinL [] a1 = [] := rfl
        rw [hj] at fin ⊢
        rcases hbare with rfl | ⟨a, rfl⟩
        · exact (Tryd.strings_Join_none none 0 a1 w).mono fun e w' ⟨he, hw⟩ => fin he (by rw [hw]; exact Below.refl _ _)
        · exact (Tryd.strings_Join_none (some a) 0 a1 w).mono fun e w' ⟨he, hw⟩ => fin he (by rw [hw]; exact Below.refl _ _)
      · have hlen : a0.length = xs.length := by rw [hmap, List.length_map]
        rw [hlen] at hcap ⊢
        have hfl : a0.flatMap T.cells = a0 := by
          rw [hmap]
          clear hmap hl hcap hlen hb hxs fin r0 hrel
          induction xs with
          | nil => rfl
          | cons s ys ih =>
            rw [List.map_cons, List.flatMap_cons, ih]
            rfl
        refine (Tryd.strings_Join b o cap xs a1 w (fun j x hx => ?_) (hW.lt b lim hl.isLim) hb.1 hcap hb.2).mono fun e w' ⟨he, hw⟩ => fin he hw
        obtain ⟨v, hv, hr⟩ := hl.at_ j (T.sc (.string x)) (by rw [hfl, hmap, List.getElem?_map, hx]; rfl)
        rw [hv, hr.toSc.1]
  · cases h
end Go.Proofs.YtimkclpogbfciaaDoor.W
