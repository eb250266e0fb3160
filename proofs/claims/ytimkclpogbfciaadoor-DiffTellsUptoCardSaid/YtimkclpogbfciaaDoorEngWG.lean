/- The engine: functions whose contracts are known from elsewhere (the library's), and what is run as it stands over them. -/
import Derived.Test.YtimkclpogbfciaaDoorEngWE
import Derived.Below
set_option linter.unusedVariables false
set_option linter.unusedSimpArgs false
namespace Go.Eng
open Go.RowKit
section
variable {P : Program}
theorem ext_gen {f : FuncId} {fn : Func} {xs : List Value} {rv : V} (hfn : P.funcs[f]? = some fn) (hn : (fn.name == "runtime.NumGoroutine") = false) (hb : fn.body.isSome = true) (hx : ∀ x ∈ xs, flat x = true)
  (h : ∀ w, Tabs P w -> Calls P f xs.toArray w fun e w' => (∃ v, e = .returned v /\ ∀ (w : World) (g : Gh) (l : Loc), RelV w g l rv v) /\ Below w.heap.size w w') : FuncOk P f (xs.map fun x => .t (.sc x)) [] rv [] := by
 refine ⟨?_, fn, hfn, hn, hb⟩
 intro w g args hsz hrel hB hW hO hdom
 have hargs : args = xs.toArray := by
  refine Array.ext (by simpa using hsz) (fun i h1 h2 => ?_)
  have h3 : i < xs.length := by simpa using h2
  have := hrel i (.t (.sc (xs[i]'h3))) (args[i]'h1) (by simp [List.getElem?_eq_getElem h3]) (Array.getElem?_eq_getElem h1)
  simp only [RelV] at this
  rw [this.toSc.1]
  simp
 subst hargs
 refine (h w (fun b hb => ⟨(hW.glob b hb).1, (hW.glob b hb).2.1⟩)).mono ?_
 rintro e w' ⟨⟨res, rfl, hres⟩, hbel⟩
 have hφ : ∀ id b, g.φ id ≠ some b := fun id b hh => absurd (hdom id b hh) (by simp)
 let O : Nat -> Option Loc := fun _ => none
 refine ⟨res, g.owners O, rfl, hres _ _ _, ⟨fun id b hh => absurd hh (hφ id b), fun id id' b hh => absurd hh (hφ id b), fun id b hh => absurd hh (hφ id b)⟩,
  ⟨fun b lim hh => Nat.lt_of_lt_of_le (hW.lt b lim hh) hbel.size, fun id b hh => absurd hh (hφ id b), fun b hh => (by cases hh), fun b l hh => (by cases hh), hW.globs hbel.size (fun b hb => hbel.block b (hW.glob b hb).1) (fun _ _ => rfl) (fun b hb => (hW.glob b hb).2.2.2)⟩,
  ⟨hbel.size, fun b lim hh => ⟨lim, hh, Nat.le_refl _, fun o _ => by simp only [World.cell?, hbel.block b (hW.lt b lim hh)]⟩, fun b hb1 _ _ => ⟨hbel.block b hb1, rfl⟩, hbel.os, hbel.tape, hbel.output, fun id b hh => hh, fun id b hh => absurd hh (hφ id b), fun b l hh => (by cases hh)⟩, fun b l hh => (by cases hh)⟩
theorem ext_ok {f : FuncId} {fn : Func} {xs : List Value} {res : Value} (hfn : P.funcs[f]? = some fn) (hn : (fn.name == "runtime.NumGoroutine") = false) (hb : fn.body.isSome = true) (hx : ∀ x ∈ xs, flat x = true) (hr : flat res = true)
  (h : ∀ w, Tabs P w -> Calls P f xs.toArray w fun e w' => e = .returned res /\ Below w.heap.size w w') : FuncOk P f (xs.map fun x => .t (.sc x)) [] (.t (.sc res)) [] :=
 ext_gen hfn hn hb hx fun w hT => (h w hT).mono fun e w' ⟨he, hw⟩ => ⟨⟨res, he, fun _ _ _ => by simp only [RelV]; exact .sc _ hr⟩, hw⟩
theorem ext_tup {f : FuncId} {fn : Func} {xs : List Value} {res : Value} (hfn : P.funcs[f]? = some fn) (hn : (fn.name == "runtime.NumGoroutine") = false) (hb : fn.body.isSome = true) (hx : ∀ x ∈ xs, flat x = true) (hr : flat res = true)
  (h : ∀ w, Tabs P w -> Calls P f xs.toArray w fun e w' => (∃ y, e = .returned (.tuple #[res, y])) /\ Below w.heap.size w w') : FuncOk P f (xs.map fun x => .t (.sc x)) [] (.tup [.t (.sc res), .any]) [] :=
 ext_gen hfn hn hb hx fun w hT => (h w hT).mono fun e w' ⟨⟨y, he⟩, hw⟩ => ⟨⟨_, he, fun _ _ _ => by simp only [RelV, RelL]; exact ⟨_, rfl, .sc _ hr, trivial, trivial⟩⟩, hw⟩
def bodyF (P : Program) (call : CallF) (n : Nat) : CallF := fun f vs sig =>
 match P.funcs[f]? with
 | none => none
 | some fn => match fn.body with
  | none => none
  | some c =>
   (match evCode P call n c (vs ++ List.replicate (fn.ntmps - vs.length) .undef) sig with
    | some (ex, e, sig1) =>
     if ex.ends then
      (match resAll P e sig1 fn.results.toList with
       | some [v] => some (v, sig1)
       | some vs => some (.tup (vs.map V.plain), sig1)
       | none => none)
     else none
    | none => none)
def evFuncS (P : Program) (spec : Spec) : Nat -> CallF
 | 0 => fun _ _ _ => none
 | n + 1 => fun f vs sig => match spec.callF f vs sig with
  | some r => some r
  | none => bodyF P (evFuncS P spec n) n f vs sig
theorem bodyF_sound (hP : ProgOk P) {call : CallF} (ih : CallFSound P call) (n : Nat) : CallFSound P (bodyF P call n) := by
 intro f vs sig res sig' h
 simp only [bodyF] at h
 split at h
 ·cases h
 rename_i fn hfn
 split at h
 ·cases h
 rename_i c hb
 split at h
 ·rename_i x e1 sig1 hev
  split at h
  ·rename_i hx
   obtain ⟨hok, hname⟩ := hP f fn c hfn hb
   refine ⟨?_, fn, hfn, hname, by simp [hb]⟩
   intro w g args hsz hrel hB hW hO hdom
   refine calls_of_wp hfn hb ?_
   let a0 : Act := { tmps := args ++ Array.replicate (fn.ntmps - args.size) undef, defers := [] }
   have hS : St P (vs ++ List.replicate (fn.ntmps - vs.length) .undef) sig a0 w g := by
    refine ⟨⟨by simp [a0, hsz], fun s hs => ?_⟩, hB, hW, fun b k h => ?_, fun b h => ?_, rfl⟩
    ·rw [at_append]
     show RelV w g (.slot s) _ ((args ++ Array.replicate _ undef).getD s undef)
     rw [getD_append]
     by_cases hlt : s < vs.length
     ·have hx : s < args.size := by omega
      have := hrel s _ _ (List.getElem?_eq_getElem hlt) (Array.getElem?_eq_getElem hx)
      simpa [hlt, hx] using this
     ·have hx : args.size <= s := by omega
      simp [List.getElem?_eq_none (Nat.not_lt.1 hlt), Array.getElem?_eq_none hx, RelV]
    ·rcases hO b _ h with ⟨s, _, h1⟩ | ⟨id, off, h1⟩ <;> simp at h1
    ·rcases hO b _ h with ⟨s, _, h1⟩ | ⟨id, off, h1⟩ <;> simp at h1
   refine wp_mono ((code_sound ih n).1 c _ _ _ _ _ hev hok a0 w g hS) ?_
   rintro y a1 w1 ⟨rfl, g1, hS1, hext⟩
   have hgoal : a1.defers = [] /\ ∃ v, (results fn a1.tmps).run P w1 = .ok v w1 /\ (∃ x g', Ending.returned v = .returned x /\ RelV w1 g' .res res x /\ SimB w1 g' sig' /\ WF P w1 g' /\ Ext w g w1 g' /\ ∀ b l, g'.O b = some l -> l = .res \/ ∃ id off, l = .box id off) := by
    refine ⟨hS1.defers, ?_⟩
    have hkeep : ∀ (s : Nat), ∃ O : Nat -> Option Loc, (∀ b, g1.O b = some (.slot s) -> O b = some .res) /\ (∀ b id off, g1.O b = some (.box id off) -> O b = some (.box id off)) /\ (∀ b l, O b = some l -> l = .res \/ ∃ id off, l = .box id off) /\ ∀ b l, O b = some l -> ∃ l', g1.O b = some l' := by
     intro s
     refine ⟨fun b => match g1.O b with | some (.slot s') => if s' = s then some .res else none | some (.box id off) => some (.box id off) | _ => none, ?_, ?_, ?_, ?_⟩
     ·intro b h; simp [h]
     ·intro b id off h; simp [h]
     ·intro b l h
      simp only at h
      split at h
      ·split at h <;> simp at h; exact .inl h.symm
      ·simp at h; exact .inr ⟨_, _, h.symm⟩
      ·cases h
     ·intro b l h
      simp only at h
      split at h
      ·exact ⟨_, by assumption⟩
      ·exact ⟨_, by assumption⟩
      ·cases h
    have fin : ∀ (s : Nat) (u : Value), (results fn a1.tmps).run P w1 = .ok u w1 -> RelV w1 g1 (.slot s) res u -> sig' = sig1 -> ∃ v, (results fn a1.tmps).run P w1 = .ok v w1 /\ (∃ x g', Ending.returned v = .returned x /\ RelV w1 g' .res res x /\ SimB w1 g' sig' /\ WF P w1 g' /\ Ext w g w1 g' /\ ∀ b l, g'.O b = some l -> l = .res \/ ∃ id off, l = .box id off) := by
     rintro s u hu hru rfl
     obtain ⟨O, h1, h2, h3, h4⟩ := hkeep s
     exact ⟨u, hu, u, g1.owners O, rfl, hru.owners hS1.W h1, hS1.B.owners hS1.W h2, hS1.W.owners (fun b h => by rcases h3 b _ h with h | ⟨_, _, h⟩ <;> simp at h) h4, hext.trans (Ext.owners w1 g1 h4), h3⟩
    split at h
    ·rename_i v hres
     simp only [Option.some.injEq, Prod.mk.injEq] at h
     obtain ⟨rfl, rfl⟩ := h
     obtain ⟨us, k1, _, k3⟩ := mapM_run hS1.E hS1.B hres
     obtain ⟨u, rfl, t, hr⟩ := k3 v rfl
     refine fin t u ?_ hr rfl
     rw [results_def, Array.mapM_eq_mapM_toList]
     simp [k1]
    ·rename_i vs' hne hres
     simp only [Option.some.injEq, Prod.mk.injEq] at h
     obtain ⟨rfl, rfl⟩ := h
     obtain ⟨us, k1, k2, _⟩ := mapM_run hS1.E hS1.B hres
     refine fin 0 (.tuple us.toArray) ?_ (by simp only [RelV]; exact ⟨us.toArray, rfl, by simpa using k2⟩) rfl
     rw [results_def, Array.mapM_eq_mapM_toList]
     have hlen : us.length ≠ 1 := by
      have := k2.length
      simp at this
      rw [<- this]
      intro h1
      obtain ⟨v, rfl⟩ := List.length_eq_one_iff.1 h1
      exact hne v rfl
     simp [k1, hlen]
    ·cases h
   cases x with
   | normal => exact hgoal
   | ret => exact hgoal
   | exit id => simp [Ex.ends] at hx
   | goto l => simp [Ex.ends] at hx
  ·cases h
 ·cases h
theorem evFuncS_sound (hP : ProgOk P) {spec : Spec} (hC : CallsOk P spec) : ∀ (n : Nat), CallFSound P (evFuncS P spec n)
 | 0 => fun f vs sig res sig' h => by simp [evFuncS] at h
 | n + 1 => fun f vs sig res sig' h => by
  simp only [evFuncS] at h
  split at h
  ·rename_i r hr
   simp only [Option.some.injEq] at h
   subst h
   exact callF_sound hC f vs sig _ _ hr
  ·exact bodyF_sound hP (evFuncS_sound hP hC n) n f vs sig res sig' h
end
end Go.Eng
