/- The engine: functions whose contracts are known from elsewhere (the library's), and what is run as it stands over them. -/
import Derived.Test.YtbcgpjlkkcdmmaaGreatDoorEngWE
import Derived.Below
set_option linter.unusedVariables false
set_option linter.unusedSimpArgs false
namespace Go.Eng
open Go.RowKit
section
variable {P : Program}
theorem ext_gen {f : FuncId} {fn : Func} {xs : List Value} {rv : V} (hfn : P.funcs[f]? = some fn) (hn : (fn.name == "runtime.NumGoroutine") = false) (hb : fn.body.isSome = true) (hx : ∀ x ∈ xs, flat x = true)
  (h : ∀ w, Tabs P w -> Calls P f xs.toArray w fun e w' => (∃ v, e = .returned v /\ ∀ (w : World) (g : Gh) (l : Loc), RelV w g l rv v) /\ Below w.heap.size w w') : FuncOk P f (xs.map fun x => .t (.sc x)) [] rv [] := by
 refine ⟨?_, fn, hfn, hn, hb⟩
 intro w g args hsz hrel hB hW hO hdom
 have hargs : args = xs.toArray := by
  refine Array.ext (by simpa using hsz) (fun i h1 h2 => ?_)
  have h3 : i < xs.length := by simpa using h2
  have := hrel i (.t (.sc (xs[i]'h3))) (args[i]'h1) (by simp [List.getElem?_eq_getElem h3]) (Array.getElem?_eq_getElem h1)
  simp only [RelV] at this
  rw [this.toSc.1]
  simp
 subst hargs
 refine (h w (fun b hb => ⟨(hW.glob b hb).1, (hW.glob b hb).2.1⟩)).mono ?_
 rintro e w' ⟨⟨res, rfl, hres⟩, hbel⟩
 have hφ : ∀ id b, g.φ id ≠ some b := fun id b hh => absurd (hdom id b hh) (by simp)
 let O : Nat -> Option Loc := fun _ => none
 refine ⟨res, g.owners O, rfl, hres _ _ _, ⟨fun id b hh => absurd hh (hφ id b), fun id id' b hh => absurd hh (hφ id b), fun id b hh => absurd hh (hφ id b)⟩,
  ⟨fun b lim hh => Nat.lt_of_lt_of_le (hW.lt b lim hh) hbel.size, fun id b hh => absurd hh (hφ id b), fun b hh => (by cases hh), fun b l hh => (by cases hh), hW.globs hbel.size (fun b hb => hbel.block b (hW.glob b hb).1) (fun _ _ => rfl) (fun b hb => (hW.glob b hb).2.2.2)⟩,
  ⟨hbel.size, fun b lim hh => ⟨lim, hh, Nat.le_refl _, fun o _ => by simp only [World.cell?, hbel.block b (hW.lt b lim hh)]⟩, fun b hb1 _ _ => ⟨hbel.block b hb1, rfl⟩, hbel.os, hbel.tape, hbel.output, fun id b hh => hh, fun id b hh => absurd hh (hφ id b), fun b l hh => (by cases hh)⟩, fun b l hh => (by cases hh)⟩
theorem ext_ok {f : FuncId} {fn : Func} {xs : List Value} {res : Value} (hfn : P.funcs[f]? = some fn) (hn : (fn.name == "runtime.NumGoroutine") = false) (hb : fn.body.isSome = true) (hx : ∀ x ∈ xs, flat x = true) (hr : flat res = true)
  (h : ∀ w, Tabs P w -> Calls P f xs.toArray w fun e w' => e = .returned res /\ Below w.heap.size w w') : FuncOk P f (xs.map fun x => .t (.sc x)) [] (.t (.sc res)) [] :=
 ext_gen hfn hn hb hx fun w hT => (h w hT).mono fun e w' ⟨he, hw⟩ => ⟨⟨res, he, fun _ _ _ => by simp only [RelV]; exact .sc _ hr⟩, hw⟩
theorem ext_tup {f : FuncId} {fn : Func} {xs : List Value} {res : Value} (hfn : P.funcs[f]? = some fn) (hn : (fn.name == "runtime.NumGoroutine") = false) (hb : fn.body.isSome = true) (hx : ∀ x ∈ xs, flat x = true) (hr : flat res = true)
  (h : ∀ w, Tabs P w -> Calls P f xs.toArray w fun e w' => (∃ y, e = .returned (.tuple #[res, y])) /\ Below w.heap.size w w') : FuncOk P f (xs.map fun x => .t (.sc x)) [] (.tup [.t (.sc res), .any]) [] :=
 ext_gen hfn hn hb hx fun w hT => (h w hT).mono fun e w' ⟨⟨y, he⟩, hw⟩ => ⟨⟨_, he, fun _ _ _ => by simp only [RelV, RelL]; exact ⟨_, rfl, .sc _ hr, trivial, trivial⟩⟩, hw⟩
end
end Go.Eng
