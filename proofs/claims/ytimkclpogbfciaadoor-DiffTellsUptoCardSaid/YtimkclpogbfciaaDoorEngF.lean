/- The engine, eighteenth part: a function's body, over its own view. -/
import Derived.Test.YtimkclpogbfciaaDoorEngE
set_option linter.unusedVariables false
set_option linter.unusedSimpArgs false
namespace Go.Eng
open Go.RowKit
section
variable {P : Program} {w w' : World} {g g' : Gh} {e e' : Env} {a a' : Act} {sig sig' : Sig}
def resRun (tmps : Array Value) : ResultVar -> Sem Value
 | .tmp t => pure (tmps.getD t undef)
 | .cell x t => do loadVar t (← asAddr (tmps.getD x undef))
theorem at_append (vs : List V) (n s : Nat) : Env.at (vs ++ List.replicate n .undef) s = vs.getD s .undef := by
 simp only [Env.at, List.getD_eq_getElem?_getD]
 by_cases h : s < vs.length
 ·rw [List.getElem?_append_left h]
 ·rw [List.getElem?_append_right (by omega), List.getElem?_eq_none (l := vs) (by omega), List.getElem?_replicate]
  split <;> rfl
theorem getD_append (vs : Array Value) (n s : Nat) : (vs ++ Array.replicate n undef).getD s undef = vs.getD s undef := by
 simp only [Array.getD_eq_getD_getElem?]
 by_cases h : s < vs.size
 ·rw [Array.getElem?_append_left h]
 ·rw [Array.getElem?_append_right (by omega), Array.getElem?_eq_none (xs := vs) (by omega), Array.getElem?_replicate]
  split <;> rfl
theorem results_def (fn : Func) (tmps : Array Value) : results fn tmps = (do let vs ← fn.results.mapM (resRun tmps); pure (if h : vs.size = 1 then vs[0] else .tuple vs)) := by
 unfold results
 congr 1
theorem loadVar_ptr (hE : SimE w g e a) (hB : SimB w g sig) {t : TypeId} {x : Nat} {id off : Nat} (hx : (e.at x).plain = .ptr id off) {b : Bool} {n : Nat} (ha : tyAgg P t = some b) (hn : tySize P t = some n)
  {cs : List V} (hs : sig[id]? = some (some cs)) {v : V} (h : partV b n off (cs.map V.plain) = some v) :
  ∃ u, (resRun a.tmps (.cell x t)).run P w = .ok u w /\ (∀ l, RelV w g l v u) := by
 let o : Oper := { (default : Oper) with op := .load t (.tmp x) }
 have hrd : rd e (.tmp x) = some (.ptr id off) := by simp [rd, rdF, hx]
 obtain ⟨u, h1, h2, _⟩ := load_ptr (o := o) hE hB rfl hrd ha hn hs h
 have h3 := (rd_rel hE hrd .nil).1
 simp only [RelV] at h3
 obtain ⟨bl, _, h4⟩ := h3
 have h5 : a.tmps.getD x undef = .pointer (some ⟨bl, off, none⟩) := h4
 refine ⟨u, ?_, h2⟩
 simp only [resRun, h5]
 have h1' : (execOp a.eval o).run P w = .ok (.value u) w := h1
 simp only [o, execOp] at h1'
 rw [h4] at h1'
 simp [Instr.loadAt, Instr.sureAddr] at h1'
 simp [asAddr]
 cases hl : (loadVar t ⟨bl, off, none⟩).run P w with
 | ok y w' => simp [hl] at h1'; rw [h1'.1, h1'.2]
 | halt x w' => simp [hl] at h1'
theorem resV_run (hE : SimE w g e a) (hB : SimB w g sig) {y : ResultVar} {v : V} (h : resV P e sig y = some v) :
  ∃ u, (resRun a.tmps y).run P w = .ok u w /\ ((∃ t, RelV w g (.slot t) v u) /\ ∀ l, RelV w g l v.plain u) := by
 cases y with
 | tmp t =>
  simp only [resV, Option.some.injEq] at h
  subst h
  have hr : RelV w g (.slot t) (e.at t) (a.tmps.getD t undef) := by
   by_cases ht : t < e.length
   ·exact hE.at_ t ht
   ·have h1 : e.at t = .undef := by simp [Env.at, List.getElem?_eq_none (Nat.not_lt.1 ht)]
    have h2 : a.tmps.getD t undef = undef := by
     have := hE.size
     have hle : a.tmps.size <= t := by rw [this]; exact Nat.not_lt.1 ht
     simp [Array.getElem?_eq_none hle]
    rw [h1, h2]; simp only [RelV]
  exact ⟨_, by simp [resRun], ⟨t, hr⟩, fun l => hr.plain⟩
 | cell x t =>
  simp only [resV] at h
  split at h
  ·rename_i id off ag n hx ha hn
   split at h
   ·rename_i cs hs
    obtain ⟨u, h1, h2⟩ := loadVar_ptr hE hB hx ha hn hs h
    exact ⟨u, h1, ⟨0, h2 _⟩, fun l => (h2 l).plain⟩
   ·cases h
  ·cases h
theorem mapM_run (hE : SimE w g e a) (hB : SimB w g sig) : ∀ {ys : List ResultVar} {vs : List V}, resAll P e sig ys = some vs →
  ∃ us, (ys.mapM (resRun a.tmps)).run P w = .ok us w /\ RelL w g (vs.map V.plain) us /\ ∀ v, vs = [v] -> ∃ u, us = [u] /\ ∃ t, RelV w g (.slot t) v u
 | [], vs, h => by
  simp only [resAll, Option.some.injEq] at h
  subst h
  exact ⟨[], by simp, by simp [RelL], by simp⟩
 | y :: ys, vs, h => by
  simp only [resAll] at h
  split at h
  ·rename_i v vs' h1 h2
   simp only [Option.some.injEq] at h
   subst h
   obtain ⟨u, k1, k2, k3⟩ := resV_run hE hB h1
   obtain ⟨us, q1, q2, q3⟩ := mapM_run hE hB h2
   refine ⟨u :: us, by simp [List.mapM_cons, k1, q1], by simp only [List.map_cons, RelL]; exact ⟨k3 _, q2⟩, fun v' hv => ?_⟩
   simp only [List.cons.injEq] at hv
   obtain ⟨rfl, rfl⟩ := hv
   cases us with
   | nil => exact ⟨u, rfl, k2⟩
   | cons x xs => simp [RelL] at q2
  ·cases h
def ProgOk (P : Program) : Prop := ∀ (f : FuncId) (fn : Func) (c : Code), P.funcs[f]? = some fn -> fn.body = some c -> CodeOk P c /\ (fn.name == "runtime.NumGoroutine") = false
theorem func_sound (hP : ProgOk P) : ∀ (n : Nat), CallFSound P (evFunc P n)
 | 0 => fun f vs sig res sig' h => by simp [evFunc] at h
 | n + 1 => fun f vs sig res sig' h => by
  have ih := func_sound hP n
  simp only [evFunc] at h
  split at h
  ·cases h
  rename_i fn hfn
  split at h
  ·cases h
  rename_i c hb
  split at h
  ·rename_i x e1 sig1 hev
   split at h
   ·rename_i hx
    obtain ⟨hok, hname⟩ := hP f fn c hfn hb
    refine ⟨?_, fn, hfn, hname, by simp [hb]⟩
    intro w g args hsz hrel hB hW hO hdom
    refine calls_of_wp hfn hb ?_
    let a0 : Act := { tmps := args ++ Array.replicate (fn.ntmps - args.size) undef, defers := [] }
    have hS : St P (vs ++ List.replicate (fn.ntmps - vs.length) .undef) sig a0 w g := by
     refine ⟨⟨by simp [a0, hsz], fun s hs => ?_⟩, hB, hW, fun b k h => ?_, fun b h => ?_, rfl⟩
     ·rw [at_append]
      show RelV w g (.slot s) _ ((args ++ Array.replicate _ undef).getD s undef)
      rw [getD_append]
      by_cases hlt : s < vs.length
      ·have hx : s < args.size := by omega
       have := hrel s _ _ (List.getElem?_eq_getElem hlt) (Array.getElem?_eq_getElem hx)
       simpa [hlt, hx] using this
      ·have hx : args.size <= s := by omega
       simp [List.getElem?_eq_none (Nat.not_lt.1 hlt), Array.getElem?_eq_none hx, RelV]
     ·rcases hO b _ h with ⟨s, _, h1⟩ | ⟨id, off, h1⟩ <;> simp at h1
     ·rcases hO b _ h with ⟨s, _, h1⟩ | ⟨id, off, h1⟩ <;> simp at h1
    refine wp_mono ((code_sound ih n).1 c _ _ _ _ _ hev hok a0 w g hS) ?_
    rintro y a1 w1 ⟨rfl, g1, hS1, hext⟩
    have hgoal : a1.defers = [] /\ ∃ v, (results fn a1.tmps).run P w1 = .ok v w1 /\ (∃ x g', Ending.returned v = .returned x /\ RelV w1 g' .res res x /\ SimB w1 g' sig' /\ WF P w1 g' /\ Ext w g w1 g' /\ ∀ b l, g'.O b = some l -> l = .res \/ ∃ id off, l = .box id off) := by
     refine ⟨hS1.defers, ?_⟩
     have hkeep : ∀ (s : Nat), ∃ O : Nat -> Option Loc, (∀ b, g1.O b = some (.slot s) -> O b = some .res) /\ (∀ b id off, g1.O b = some (.box id off) -> O b = some (.box id off)) /\ (∀ b l, O b = some l -> l = .res \/ ∃ id off, l = .box id off) /\ ∀ b l, O b = some l -> ∃ l', g1.O b = some l' := by
      intro s
      refine ⟨fun b => match g1.O b with | some (.slot s') => if s' = s then some .res else none | some (.box id off) => some (.box id off) | _ => none, ?_, ?_, ?_, ?_⟩
      ·intro b h; simp [h]
      ·intro b id off h; simp [h]
      ·intro b l h
       simp only at h
       split at h
       ·split at h <;> simp at h; exact .inl h.symm
       ·simp at h; exact .inr ⟨_, _, h.symm⟩
       ·cases h
      ·intro b l h
       simp only at h
       split at h
       ·exact ⟨_, by assumption⟩
       ·exact ⟨_, by assumption⟩
       ·cases h
     have fin : ∀ (s : Nat) (u : Value), (results fn a1.tmps).run P w1 = .ok u w1 -> RelV w1 g1 (.slot s) res u -> sig' = sig1 -> ∃ v, (results fn a1.tmps).run P w1 = .ok v w1 /\ (∃ x g', Ending.returned v = .returned x /\ RelV w1 g' .res res x /\ SimB w1 g' sig' /\ WF P w1 g' /\ Ext w g w1 g' /\ ∀ b l, g'.O b = some l -> l = .res \/ ∃ id off, l = .box id off) := by
      rintro s u hu hru rfl
      obtain ⟨O, h1, h2, h3, h4⟩ := hkeep s
      exact ⟨u, hu, u, g1.owners O, rfl, hru.owners hS1.W h1, hS1.B.owners hS1.W h2, hS1.W.owners (fun b h => by rcases h3 b _ h with h | ⟨_, _, h⟩ <;> simp at h) h4, hext.trans (Ext.owners w1 g1 h4), h3⟩
     split at h
     ·rename_i v hres
      simp only [Option.some.injEq, Prod.mk.injEq] at h
      obtain ⟨rfl, rfl⟩ := h
      obtain ⟨us, k1, _, k3⟩ := mapM_run hS1.E hS1.B hres
      obtain ⟨u, rfl, t, hr⟩ := k3 v rfl
      refine fin t u ?_ hr rfl
      rw [results_def, Array.mapM_eq_mapM_toList]
      simp [k1]
     ·rename_i vs' hne hres
      simp only [Option.some.injEq, Prod.mk.injEq] at h
      obtain ⟨rfl, rfl⟩ := h
      obtain ⟨us, k1, k2, _⟩ := mapM_run hS1.E hS1.B hres
      refine fin 0 (.tuple us.toArray) ?_ (by simp only [RelV]; exact ⟨us.toArray, rfl, by simpa using k2⟩) rfl
      rw [results_def, Array.mapM_eq_mapM_toList]
      have hlen : us.length ≠ 1 := by
       have := k2.length
       simp at this
       rw [<- this]
       intro h1
       obtain ⟨v, rfl⟩ := List.length_eq_one_iff.1 h1
       exact hne v rfl
      simp [k1, hlen]
     ·cases h
    cases x with
    | normal => exact hgoal
    | ret => exact hgoal
    | exit id => simp [Ex.ends] at hx
    | goto l => simp [Ex.ends] at hx
   ·cases h
  ·cases h
end
end Go.Eng
