/- The engine: functions whose contracts are shown by hand: what they read, new memory that they hand back. -/
import Derived.Test.YtimkclpogbfciaaDoorEngWG
set_option linter.unusedVariables false
set_option linter.unusedSimpArgs false
namespace Go.Eng
open Go.RowKit
section
variable {P : Program}
theorem ext_any {f : FuncId} {fn : Func} {vs : List V} {rv : V} (hfn : P.funcs[f]? = some fn) (hn : (fn.name == "runtime.NumGoroutine") = false) (hb : fn.body.isSome = true)
  (h : ∀ (w : World) (g : Gh) (args : Array Value), args.size = vs.length -> (∀ (i : Nat) (v : V) (x : Value), vs[i]? = some v -> args[i]? = some x -> RelV w g (.slot i) v x) -> WF P w g -> Tabs P w →
   Calls P f args w fun e w' => ∃ v F', e = .returned v /\ (∀ b, b < w.heap.size -> F' b = g.F b) /\ (∀ b lim, F' b = some lim -> b < w'.heap.size) /\ RelV w' ⟨F', g.φ, fun _ => none⟩ .res rv v /\ Below w.heap.size w w') : FuncOk P f vs [] rv [] := by
 refine ⟨?_, fn, hfn, hn, hb⟩
 intro w g args hsz hrel hB hW hO hdom
 refine (h w g args hsz hrel hW (fun b hb => ⟨(hW.glob b hb).1, (hW.glob b hb).2.1⟩)).mono ?_
 rintro e w' ⟨res, F', rfl, hF1, hF2, hres, hbel⟩
 have hφ : ∀ id b, g.φ id ≠ some b := fun id b hh => absurd (hdom id b hh) (by simp)
 refine ⟨res, ⟨F', g.φ, fun _ => none⟩, rfl, hres, ⟨fun id b hh => absurd hh (hφ id b), fun id id' b hh => absurd hh (hφ id b), fun id b hh => absurd hh (hφ id b)⟩,
  ⟨hF2, fun id b hh => absurd hh (hφ id b), fun b hh => (by cases hh), fun b l hh => (by cases hh), hW.globs hbel.size (fun b hb => hbel.block b (hW.glob b hb).1) (fun _ _ => rfl) (fun b hb => (hW.glob b hb).2.2.2)⟩,
  ⟨hbel.size, fun b lim hh => ?_, fun b hb1 _ _ => ⟨hbel.block b hb1, hF1 b hb1⟩, hbel.os, hbel.tape, hbel.output, fun id b hh => hh, fun id b hh => absurd hh (hφ id b), fun b l hh => (by cases hh)⟩, fun b l hh => (by cases hh)⟩
 have hlt := hW.lt b lim hh
 exact ⟨lim, (hF1 b hlt).trans hh, Nat.le_refl _, fun o _ => by simp only [World.cell?, hbel.block b hlt]⟩
theorem rel_sc {w : World} {g : Gh} {l : Loc} {u x : Value} (h : RelV w g l (.t (.sc u)) x) : x = u := by
 simp only [RelV] at h
 exact h.toSc.1
theorem args2 {w : World} {g : Gh} {v0 v1 : V} {args : Array Value} (hs : args.size = 2) (h : ∀ (i : Nat) (v : V) (x : Value), [v0, v1][i]? = some v -> args[i]? = some x -> RelV w g (.slot i) v x) :
  ∃ x0 x1, args = #[x0, x1] /\ RelV w g (.slot 0) v0 x0 /\ RelV w g (.slot 1) v1 x1 := by
 refine ⟨args[0], args[1], ?_, h 0 v0 _ rfl (Array.getElem?_eq_getElem (by omega)), h 1 v1 _ rfl (Array.getElem?_eq_getElem (by omega))⟩
 refine Array.ext (by simp [hs]) (fun i h1 h2 => ?_)
 match i, h1 with
 | 0, _ => rfl
 | 1, _ => rfl
 | i + 2, h1 => omega
theorem args1 {w : World} {g : Gh} {v0 : V} {args : Array Value} (hs : args.size = 1) (h : ∀ (i : Nat) (v : V) (x : Value), [v0][i]? = some v -> args[i]? = some x -> RelV w g (.slot i) v x) :
  ∃ x0, args = #[x0] /\ RelV w g (.slot 0) v0 x0 := by
 refine ⟨args[0], ?_, h 0 v0 _ rfl (Array.getElem?_eq_getElem (by omega))⟩
 refine Array.ext (by simp [hs]) (fun i h1 h2 => ?_)
 match i, h1 with
 | 0, _ => rfl
 | i + 1, h1 => omega
theorem wpAny_kept {ops : Array Oper} {Q : Exit -> Act -> World -> Prop} (I : (Nat -> Bool) -> Act -> World -> Prop) (hst : drawB ops = true)
  (hstep : ∀ (d : Nat -> Bool) (i : Nat) (a : Act) (w : World), I d a w -> i < ops.size -> d i = false -> (∀ o, ops.toList[i]? = some o -> ∀ e ∈ o.after, Region.binds .any e = true -> d e.on = true) →
   wpOp P ops Q i (fun a w => I (fun k => if k = i then true else d k) a w) a w)
  (hend : ∀ (d : Nat -> Bool) (a : Act) (w : World), I d a w -> (∀ k, k < ops.size -> d k = true) -> Q .normal a w) :
  ∀ (fuel : Nat) (listed : Array Bool) (a : Act) (w : World), listed.size = ops.size -> (rem ops.size listed).length <= fuel -> I (fun k => listed.getD k false) a w -> wpAny P .any ops Q fuel listed a w := by
 have hlen : ops.toList.length = ops.size := by simp
 have hempty : ∀ {listed : Array Bool}, listed.size = ops.size -> Region.ready .any ops listed = [] -> rem ops.size listed = [] := by
  intro listed hsz hr
  cases hrem : rem ops.size listed with
  | nil => rfl
  | cons m rest =>
   exfalso
   have hm : m ∈ rem ops.size listed := by rw [hrem]; simp
   obtain ⟨hm1, hm2⟩ := mem_rem.1 hm
   have hsort := rem_sorted ops.size listed
   rw [hrem] at hsort
   have hmin := (List.pairwise_cons.1 hsort).1
   have hom : ops.toList[m]? = some (ops.toList[m]'(by omega)) := List.getElem?_eq_getElem (by omega)
   have : m ∈ Region.ready .any ops listed := by
    rw [mem_ready]
    refine ⟨hm2, ops.toList[m]'(by omega), by simp, fun e he hb => ?_⟩
    have hlt := drawB_edge hst hom he hb
    cases hl : listed.getD e.on true with
    | true => rw [getD_dir (by omega) false true]; exact hl
    | false =>
     have : e.on ∈ rem ops.size listed := mem_rem.2 ⟨by omega, hl⟩
     rw [hrem] at this
     rcases List.mem_cons.1 this with h | h
     ·omega
     ·have := hmin _ h; omega
   rw [hr] at this
   cases this
 have hready : ∀ {listed : Array Bool} {i : Nat}, i ∈ Region.ready .any ops listed -> i ∈ rem ops.size listed := by
  intro listed i h
  obtain ⟨h1, o, ho, _⟩ := mem_ready.1 h
  exact mem_rem.2 ⟨(Array.getElem?_eq_some_iff.1 ho).1, h1⟩
 have hall : ∀ {listed : Array Bool}, listed.size = ops.size -> rem ops.size listed = [] -> ∀ k, k < ops.size -> listed.getD k false = true := by
  intro listed hsz hr k hk
  cases h : listed.getD k false with
  | true => rfl
  | false =>
   have : k ∈ rem ops.size listed := mem_rem.2 ⟨hk, by rw [getD_dir (by omega) true false]; exact h⟩
   rw [hr] at this
   cases this
 intro fuel
 induction fuel with
 | zero =>
  intro listed a w hsz hf hI
  have hrem : rem ops.size listed = [] := List.length_eq_zero_iff.1 (by omega)
  refine ⟨?_, hend _ _ _ hI (hall hsz hrem)⟩
  cases hr : Region.ready .any ops listed with
  | nil => rfl
  | cons i rest =>
   have := hready (listed := listed) (i := i) (by rw [hr]; simp)
   rw [hrem] at this; cases this
 | succ fuel ih =>
  intro listed a w hsz hf hI
  refine ⟨fun hr => hend _ _ _ hI (hall hsz (hempty hsz hr)), fun i hi => ?_⟩
  have him := hready hi
  obtain ⟨hi1, oi, hoi, hb⟩ := mem_ready.1 hi
  obtain ⟨hin, _⟩ := mem_rem.1 him
  have hset : ∀ k, (listed.setIfInBounds i true).getD k false = if k = i then true else listed.getD k false := by
   intro k
   simp only [Array.getD_eq_getD_getElem?]
   by_cases hk : k = i
   ·subst hk
    rw [if_pos rfl, Array.getElem?_setIfInBounds_self_of_lt (by omega)]; rfl
   ·rw [if_neg hk, Array.getElem?_setIfInBounds_ne (fun h => hk h.symm)]
  have hlt : (rem ops.size (listed.setIfInBounds i true)).length <= fuel := by
   obtain ⟨pre, post, hr1, hr2, _, _⟩ := rem_take him hsz
   have h1 := congrArg List.length hr1
   have h2 := congrArg List.length hr2
   simp only [List.length_append, List.length_cons] at h1 h2
   omega
  refine wpOp_mono (fun a w h => ih _ a w (by simpa using hsz) hlt (by simpa only [hset] using h)) (hstep _ i a w hI hin (by rw [getD_dir (by omega) false true]; exact hi1) (fun o ho e he hbd => ?_))
  have : oi = o := by rw [<- Array.getElem?_toList] at hoi; rw [hoi] at ho; exact Option.some.inj ho
  subst this
  exact hb e he hbd
theorem region_kept {ops : Array Oper} {Q : Exit -> Act -> World -> Prop} {id : Nat} (I : (Nat -> Bool) -> Act -> World -> Prop) (hm : P.follows .mixedOrders = true) (hst : drawB ops = true)
  (hstep : ∀ (d : Nat -> Bool) (i : Nat) (a : Act) (w : World), I d a w -> i < ops.size -> d i = false -> (∀ o, ops.toList[i]? = some o -> ∀ e ∈ o.after, Region.binds .any e = true -> d e.on = true) →
   wpOp P ops Q i (fun a w => I (fun k => if k = i then true else d k) a w) a w)
  (hend : ∀ (d : Nat -> Bool) (a : Act) (w : World), I d a w -> (∀ k, k < ops.size -> d k = true) -> Q .normal a w) {a : Act} {w : World} (h0 : I (fun _ => false) a { w with drawn := w.drawn + 1 }) : (Code.region id ops true).wp P Q a w := by
 refine wp_region_any hm (wpAny_kept I hst hstep hend ops.size _ a _ (by simp) ?_ ?_)
 ·have hrem : rem ops.size (Array.replicate ops.size false) = List.range ops.size := by
   unfold rem
   rw [List.filter_eq_self]
   intro k hk
   simp at hk
   simp [hk]
  rw [hrem]; simp
 ·have hg : (fun k => (Array.replicate ops.size false).getD k false) = fun _ => false := by
   funext k
   simp only [Array.getD_eq_getD_getElem?, Array.getElem?_replicate]
   split <;> rfl
  rw [hg]
  exact h0
end
end Go.Eng
