/- The engine, third part: operations that turn nothing. -/
import Derived.Test.YtimkclpogbfciaaDoorEngRel
import Derived.Test.YtimkclpogbfciaaDoorEngTabs
set_option linter.unusedVariables false
set_option linter.unusedSimpArgs false
namespace Go.Eng
open Go.RowKit
structure SimE (w : World) (g : Gh) (e : Env) (a : Act) : Prop where
 size : a.tmps.size = e.length
 at_ : ∀ s, s < e.length -> RelV w g (.slot s) (e.at s) (a.tmps.getD s undef)
def isTab (P : Program) (b : Nat) : Prop := ∃ p ∈ tabs, P.globalNamed p.1 = some b
def Fixed (P : Program) (w : World) (b : Nat) : Prop := ∀ p ∈ tabs, P.globalNamed p.1 = some b -> ∃ cs, w.var? P p.1 = some cs /\ p.2 cs
structure WF (P : Program) (w : World) (g : Gh) : Prop where
 lt : ∀ b lim, g.F b = some lim -> b < w.heap.size
 ltφ : ∀ id b, g.φ id = some b -> b < w.heap.size
 noNil : ∀ b, g.O b ≠ some .nil
 own : ∀ b l, g.O b = some l -> (g.F b).isSome = true
 glob : ∀ b, isTab P b -> b < w.heap.size /\ Fixed P w b /\ g.O b = none /\ ∀ id, g.φ id ≠ some b
structure SimB (w : World) (g : Gh) (sig : Sig) : Prop where
 box : ∀ id b, g.φ id = some b -> ∃ cs c e, sig[id]? = some (some cs) /\ w.heap[b]? = some (.cells c e (0, 0)) /\ c.size = cs.length ∧
  ∀ (k : Nat) (v : V) (x : Value), cs[k]? = some v -> c[k]? = some x -> RelV w g (.box id k) v x /\ x.oneCell' = true
 inj : ∀ id id' b, g.φ id = some b -> g.φ id' = some b -> id = id'
 apart : ∀ id b, g.φ id = some b -> g.F b = none
def Tabs (P : Program) (w : World) : Prop := ∀ b, isTab P b -> b < w.heap.size /\ Fixed P w b
theorem tabs_none {P : Program} {w : World} (h : tabs = []) : Tabs P w := fun b hb => by
 obtain ⟨p, hp, _⟩ := hb
 rw [h] at hp
 cases hp
theorem Tabs.glob {P : Program} {w : World} {g : Gh} (h : Tabs P w) (hO : ∀ b, g.O b = none) (hφ : ∀ id, g.φ id = none) : ∀ b, isTab P b -> b < w.heap.size /\ Fixed P w b /\ g.O b = none /\ ∀ id, g.φ id ≠ some b :=
 fun b hb => ⟨(h b hb).1, (h b hb).2, hO b, fun id hh => by rw [hφ id] at hh; cases hh⟩
theorem Fixed.keep {P : Program} {w w' : World} {b : Nat} (h : Fixed P w b) (hb : w'.heap[b]? = w.heap[b]?) : Fixed P w' b := by
 intro p hp hg
 obtain ⟨cs, h1, h2⟩ := h p hp hg
 refine ⟨cs, ?_, h2⟩
 simp only [World.var?, hg, Option.bind_some, hb] at h1 ⊢
 exact h1
theorem WF.globs {P : Program} {w w' : World} {g g' : Gh} (h : WF P w g) (hs : w.heap.size <= w'.heap.size) (hb : ∀ b, isTab P b -> w'.heap[b]? = w.heap[b]?) (hO : ∀ b, isTab P b -> g'.O b = none) (hφ : ∀ b, isTab P b -> ∀ id, g'.φ id ≠ some b) :
  ∀ b, isTab P b -> b < w'.heap.size /\ Fixed P w' b /\ g'.O b = none /\ ∀ id, g'.φ id ≠ some b := fun b hb1 =>
 have h1 := h.glob b hb1
 ⟨Nat.lt_of_lt_of_le h1.1 hs, h1.2.1.keep (hb b hb1), hO b hb1, hφ b hb1⟩
theorem runPure_run (P : Program) {α : Type} : ∀ (s : Sem α) (x : α) (w : World), runPure P s = some x -> s.run P w = .ok x w := by
 intro s
 induction s with
 | pure a => intro x w h; simp only [runPure, Option.some.injEq] at h; subst h; rfl
 | program k ih => intro x w h; simp only [runPure] at h; exact ih P x w h
 | _ => intro x w h; simp [runPure] at h
theorem cellOf_rel {w : World} {g : Gh} {x : Value} {v : V} (h : cellOf x = some v) (l : Loc) : RelV w g l v x /\ v.still = true /\ x.oneCell' = true := by
 unfold cellOf at h
 split at h
 ·simp only [Option.some.injEq] at h; subst h; exact ⟨by simp only [RelV], rfl, rfl⟩
 ·split at h
  ·rename_i hf; simp only [Option.some.injEq] at h; subst h; exact ⟨by simp only [RelV]; exact .sc _ hf, rfl, flat_oneCell hf⟩
  ·simp at h
theorem cellsOf_rel {w : World} {g : Gh} : ∀ {xs : List Value} {vs : List V}, cellsOf xs = some vs -> RelL w g vs xs
 | [], vs, h => by simp only [cellsOf, Option.some.injEq] at h; subst h; simp [RelL]
 | x :: xs, vs, h => by
  simp only [cellsOf] at h
  split at h
  ·rename_i y ys h1 h2
   simp only [Option.some.injEq] at h; subst h
   simp only [RelL]
   exact ⟨(cellOf_rel h1 _).1, cellsOf_rel h2⟩
  ·simp at h
theorem ofConst_rel {w : World} {g : Gh} {x : Value} {v : V} (h : ofConst x = some v) (l : Loc) : RelV w g l v x /\ v.still = true := by
 unfold ofConst at h
 split at h
 ·rename_i cs
  cases hc : cellsOf cs.toList with
  | none => simp [hc] at h
  | some vs => simp [hc] at h; subst h; exact ⟨by simp only [RelV]; exact ⟨cs, rfl, cellsOf_rel hc⟩, rfl⟩
 ·exact ⟨(cellOf_rel h l).1, (cellOf_rel (w := w) (g := g) h l).2.1⟩
section
variable {P : Program} {w : World} {g : Gh} {e : Env} {a : Act} {sig : Sig}
theorem SimE.at' (h : SimE w g e a) (s : Nat) : RelV w g (.slot s) (e.at s) (a.tmps.getD s undef) := by
 by_cases hs : s < e.length
 ·exact h.at_ s hs
 ·have h1 : e.at s = .undef := by simp [Env.at, List.getElem?_eq_none (Nat.le_of_not_lt hs)]
  have h2 : a.tmps.getD s undef = undef := by
   have : a.tmps.size <= s := by rw [h.size]; omega
   simp [Array.getElem?_eq_none this]
  rw [h1, h2]; simp only [RelV]
theorem rd_rel (h : SimE w g e a) {x : Operand} {v : V} (hr : rd e x = some v) (l : Loc) : RelV w g l v (a.eval x) /\ v.still = true := by
 cases x with
 | tmp t => simp only [rd, rdF, Option.some.injEq] at hr; subst hr; exact ⟨(h.at' t).plain, plain_still _⟩
 | const c => simp only [rd, rdF] at hr; exact ofConst_rel hr l
 | func f => simp only [rd, rdF, Option.some.injEq] at hr; subst hr; exact ⟨by simp only [RelV]; exact ⟨#[], rfl, by simp [RelL]⟩, rfl⟩
 | global k => simp [rd, rdF] at hr
theorem flatL_eq {w : World} {g : Gh} : ∀ {vs : List V} {l xs : List Value}, flatL vs = some l -> RelL w g vs xs -> xs = l
 | [], l, [], h, _ => by simp only [flatL, Option.some.injEq] at h; exact h
 | [], l, _ :: _, _, hr => by simp [RelL] at hr
 | v :: vs, l, [], _, hr => by simp [RelL] at hr
 | v :: vs, l, x :: xs, h, hr => by
  simp only [RelL] at hr
  unfold flatL at h
  split at h
  ·rename_i he; cases he
  ·rename_i u r he
   simp only [List.cons.injEq] at he
   obtain ⟨rfl, rfl⟩ := he
   cases hl : flatL vs with
   | none => simp [hl] at h
   | some l' =>
    simp [hl] at h
    subst h
    have h1 := hr.1
    simp only [RelV] at h1
    rw [h1.toSc.1, flatL_eq hl hr.2]
  ·cases h
theorem isSc_eq (h : SimE w g e a) {x : Operand} (hr : isSc (rd e) x = true) : rdV (rd e) x = a.eval x := by
 unfold isSc at hr
 unfold rdV
 split at hr
 ·rename_i v hv
  have := (rd_rel h hv .nil).1
  simp only [RelV] at this
  exact this.toSc.1.symm
 ·rename_i vs hv
  have h1 := (rd_rel h hv .nil).1
  simp only [RelV] at h1
  obtain ⟨xs, h2, h3⟩ := h1
  cases hl : flatL vs with
  | none => simp [hl] at hr
  | some l =>
   simp only
   rw [h2]
   have := flatL_eq hl h3
   rw [<- this]
 ·simp at hr
theorem scalar_sound (h : SimE w g e a) {o : Oper} (hs : ∀ cs b, o.op ≠ .select cs b) {v : V} (hv : scalar P (rd e) o = some v) (w' : World) :
  ∃ x, (execOp a.eval o).run P w' = .ok (.value x) w' /\ v = .t (.sc x) /\ flat x = true := by
 unfold scalar at hv
 split at hv
 ·rename_i hall
  rw [execOp_congr (ρ := rdV (rd e)) (ρ' := a.eval) o hs (fun x hx => isSc_eq h (by simpa using List.all_eq_true.1 hall x (by simpa using hx)))] at hv
  split at hv
  ·rename_i x hx
   split at hv
   ·rename_i hf
    simp only [Option.some.injEq] at hv
    exact ⟨x, runPure_run P _ _ _ hx, hv.symm, hf⟩
   ·simp at hv
  ·simp at hv
 ·simp at hv
theorem tySize_run {t : TypeId} {n : Nat} (h : tySize P t = some n) (w : World) : (sizeOf t).run P w = .ok n w := by
 unfold tySize at h
 cases hi : P.info? t with
 | none => simp [hi] at h
 | some i => simp [hi] at h; subst h; simp [sizeOf, typeInfo, hi]
theorem tyAgg_run {t : TypeId} {b : Bool} (h : tyAgg P t = some b) (w : World) : (isAgg t).run P w = .ok b w := by
 unfold tyAgg at h
 cases hu : P.underlying t with
 | none => simp [hu] at h
 | some d => cases d <;> simp [hu] at h <;> subst h <;> simp [isAgg, run_underlying hu]
theorem tyField_spec {t : TypeId} {f : Nat} {fd : Field} (h : tyField P t f = some fd) : ∃ fs, P.underlying t = some (.struct fs) /\ fs[f]? = some fd := by
 unfold tyField at h
 split at h
 ·rename_i fs hu; exact ⟨fs, hu, h⟩
 ·simp at h
theorem tyElem_spec {t el : TypeId} (h : tyElem P t = some el) : P.underlying t = some (.slice el) := by
 unfold tyElem at h
 split at h
 ·rename_i x hu; simp only [Option.some.injEq] at h; subst h; exact hu
 ·simp at h
theorem tyArr_spec {t el : TypeId} {n : Nat} (h : tyArr P t = some (n, el)) : P.underlying t = some (.array n el) := by
 unfold tyArr at h
 split at h
 ·rename_i x y hu; simp only [Option.some.injEq, Prod.mk.injEq] at h; obtain ⟨rfl, rfl⟩ := h; exact hu
 ·simp at h
theorem RelL.drop : ∀ {vs : List V} {xs : List Value} (n : Nat), RelL w g vs xs -> RelL w g (vs.drop n) (xs.drop n)
 | vs, xs, 0, h => by simpa using h
 | [], [], n + 1, h => by simp [RelL]
 | v :: vs, x :: xs, n + 1, h => by simp only [RelL] at h; simpa using RelL.drop n h.2
 | [], _ :: _, _, h => by simp [RelL] at h
 | _ :: _, [], _, h => by simp [RelL] at h
theorem RelL.take : ∀ {vs : List V} {xs : List Value} (n : Nat), RelL w g vs xs -> RelL w g (vs.take n) (xs.take n)
 | vs, xs, 0, h => by simp [RelL]
 | [], [], n + 1, h => by simp [RelL]
 | v :: vs, x :: xs, n + 1, h => by simp only [RelL] at h; simp only [List.take_succ_cons, RelL]; exact ⟨h.1, RelL.take n h.2⟩
 | [], _ :: _, _, h => by simp [RelL] at h
 | _ :: _, [], _, h => by simp [RelL] at h
theorem partV_sound (hW : WF P w g) {t : TypeId} {b : Bool} {n off : Nat} (ha : tyAgg P t = some b) (hn : tySize P t = some n) {vs : List V} {xs : Array Value} (h : RelL w g vs xs.toList)
  {v : V} (hv : partV b n off vs = some v) (w' : World) : ∃ x, (part t xs off).run P w' = .ok x w' /\ ∀ l, RelV w g l v x := by
 unfold partV at hv
 cases b with
 | true =>
  simp only [if_true] at hv
  split at hv
  ·simp only [Option.some.injEq] at hv
   subst hv
   refine ⟨.agg (xs.extract off (off + n)), by simp [part, tyAgg_run ha, tySize_run hn], fun l => ?_⟩
   simp only [RelV]
   refine ⟨_, rfl, ?_⟩
   have := (h.drop off).take n
   simpa [Array.toList_extract, List.extract_eq_take_drop] using this
  ·simp at hv
 | false =>
  simp only [Bool.false_eq_true, if_false] at hv
  obtain ⟨x, hx, hr⟩ := h.get hv
  refine ⟨x, ?_, fun l => hr.ofNil hW.noNil⟩
  have : xs[off]? = some x := by simpa using hx
  simp [part, tyAgg_run ha, this]
end
end Go.Eng
