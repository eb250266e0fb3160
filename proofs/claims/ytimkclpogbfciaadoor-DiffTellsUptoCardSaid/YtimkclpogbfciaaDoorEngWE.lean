/- The engine: functions' contracts out of the symbolic walk. -/
import Derived.Test.YtimkclpogbfciaaDoorEngWD
set_option linter.unusedVariables false
set_option linter.unusedSimpArgs false
namespace Go.Eng
open Go.RowKit
def V.intOf (k : IntKind) : V -> Option Int
 | .t (.sc (.int k' a)) => if k' = k then some a else none
 | _ => none
def V.boolOf : V -> Option Bool
 | .t (.sc (.bool b)) => some b
 | _ => none
def V.strOf : V -> Option ByteArray
 | .t (.sc (.string b)) => some b
 | _ => none
def V.cplxOf (k : FloatKind) : V -> Option (Nat × Nat)
 | .t (.sc (.complex k' a b)) => if k' = k then some (a, b) else none
 | _ => none
def V.fltOf (k : FloatKind) : V -> Option Nat
 | .t (.sc (.float k' a)) => if k' = k then some a else none
 | _ => none
def V.lstOf : V -> Option (List T)
 | .t (.list es) => some es
 | .own _ es => some es
 | .nil => some []
 | _ => none
def V.ownOf (m : Nat) : V -> Option (List T)
 | .own sz es => bif Nat.beq sz m || Nat.beq sz 0 then some es else none
 | .nil => some []
 | _ => none
def V.aggOf : V -> Option (List V)
 | .agg vs => some vs
 | _ => none
def V.tupOf : V -> Option (List V)
 | .tup vs => some vs
 | _ => none
def V.ptrOf (id off : Nat) : V -> Option Unit
 | .ptr id' off' => if id' = id /\ off' = off then some () else none
 | _ => none
def V.fnOf (f : FuncId) : V -> Option (List V)
 | .fn f' caps => if f' = f then some caps else none
 | _ => none
theorem intOf_wk {k : IntKind} {v : V} {a : Int} (h : v.intOf k = some a) : Wk v (.t (.sc (.int k a))) := by
 unfold V.intOf at h
 split at h
 ·split at h
  ·rename_i hk; simp only [Option.some.injEq] at h; subst h; subst hk; exact .refl _
  ·cases h
 ·cases h
theorem boolOf_wk {v : V} {a : Bool} (h : v.boolOf = some a) : Wk v (.t (.sc (.bool a))) := by
 unfold V.boolOf at h
 split at h
 ·simp only [Option.some.injEq] at h; subst h; exact .refl _
 ·cases h
theorem strOf_wk {v : V} {a : ByteArray} (h : v.strOf = some a) : Wk v (.t (.sc (.string a))) := by
 unfold V.strOf at h
 split at h
 ·simp only [Option.some.injEq] at h; subst h; exact .refl _
 ·cases h
theorem cplxOf_wk {k : FloatKind} {v : V} {a : Nat × Nat} (h : v.cplxOf k = some a) : Wk v (.t (.sc (.complex k a.1 a.2))) := by
 unfold V.cplxOf at h
 split at h
 ·split at h
  ·rename_i hk; simp only [Option.some.injEq] at h; subst h; subst hk; exact .refl _
  ·cases h
 ·cases h
theorem fltOf_wk {k : FloatKind} {v : V} {a : Nat} (h : v.fltOf k = some a) : Wk v (.t (.sc (.float k a))) := by
 unfold V.fltOf at h
 split at h
 ·split at h
  ·rename_i hk; simp only [Option.some.injEq] at h; subst h; subst hk; exact .refl _
  ·cases h
 ·cases h
theorem lstOf_wk {v : V} {es : List T} (h : v.lstOf = some es) : Wk v (.t (.list es)) := by
 unfold V.lstOf at h
 split at h
 ·simp only [Option.some.injEq] at h; subst h; exact .refl _
 ·simp only [Option.some.injEq] at h; subst h; exact .ownList _ _
 ·simp only [Option.some.injEq] at h; subst h; exact .nilList
 ·cases h
theorem ownOf_wk {m : Nat} {v : V} {es : List T} (h : v.ownOf m = some es) : Wk v (.own m es) := by
 unfold V.ownOf at h
 split at h
 ·rename_i sz es'
  cases hb : (Nat.beq sz m || Nat.beq sz 0) with
  | false => simp [hb] at h
  | true =>
   simp only [hb, cond_true, Option.some.injEq] at h
   subst h
   rw [Bool.or_eq_true] at hb
   rcases hb with hb | hb
   ·rw [Nat.eq_of_beq_eq_true hb]; exact .refl _
   ·rw [Nat.eq_of_beq_eq_true hb]; exact .own0' _ _
 ·simp only [Option.some.injEq] at h; subst h; exact .nilOwn _
 ·cases h
theorem aggOf_wk {v : V} {vs vs' : List V} (h : v.aggOf = some vs) (hl : WkL vs vs') : Wk v (.agg vs') := by
 unfold V.aggOf at h
 split at h
 ·simp only [Option.some.injEq] at h; subst h; exact .agg hl
 ·cases h
theorem tupOf_wk {v : V} {vs vs' : List V} (h : v.tupOf = some vs) (hl : WkL vs vs') : Wk v (.tup vs') := by
 unfold V.tupOf at h
 split at h
 ·simp only [Option.some.injEq] at h; subst h; exact .tup hl
 ·cases h
theorem ptrOf_wk {id off : Nat} {v : V} {u : Unit} (h : v.ptrOf id off = some u) : Wk v (.ptr id off) := by
 unfold V.ptrOf at h
 split at h
 ·split at h
  ·rename_i hk; obtain ⟨rfl, rfl⟩ := hk; exact .refl _
  ·cases h
 ·cases h
theorem fnOf_wk {f : FuncId} {v : V} {vs vs' : List V} (h : v.fnOf f = some vs) (hl : WkL vs vs') : Wk v (.fn f vs') := by
 unfold V.fnOf at h
 split at h
 ·split at h
  ·rename_i hk; simp only [Option.some.injEq] at h; subst h; subst hk; exact .fn hl
  ·cases h
 ·cases h
def V.aggN (n : Nat) : V -> Option (List V)
 | .agg vs => bif Nat.beq vs.length n then some vs else none
 | _ => none
def V.tupN (n : Nat) : V -> Option (List V)
 | .tup vs => bif Nat.beq vs.length n then some vs else none
 | _ => none
def V.fnN (f n : Nat) : V -> Option (List V)
 | .fn f' vs => bif Nat.beq f' f && Nat.beq vs.length n then some vs else none
 | _ => none
def cellsN (n : Nat) (s : Sig) (i : Nat) : Option (List V) :=
 match s[i]? with
 | some (some cs) => bif Nat.beq cs.length n then some cs else none
 | _ => none
inductive WkG (l : List V) : Nat -> List V -> Prop
 | nil {i : Nat} : WkG l i []
 | cons {i : Nat} {v' : V} {vs' : List V} : Wk (l.getD i .any) v' -> WkG l (i + 1) vs' -> WkG l i (v' :: vs')
theorem wkG_get {l : List V} : ∀ {i : Nat} {vs' : List V}, WkG l i vs' -> ∀ (j : Nat) (v' : V), vs'[j]? = some v' -> Wk (l.getD (i + j) .any) v'
 | i, _, .nil, j, v', h => by simp at h
 | i, _, .cons h1 h2, 0, v', h => by simp at h; subst h; exact h1
 | i, _, .cons h1 h2, j + 1, v', h => by
  have := wkG_get h2 j v' (by simpa using h)
  rw [show i + 1 + j = i + (j + 1) by omega] at this
  exact this
theorem wkL_of : ∀ {l vs' : List V}, vs'.length = l.length -> (∀ (j : Nat) (v' : V), vs'[j]? = some v' -> Wk (l.getD j .any) v') -> WkL l vs'
 | [], [], _, _ => .nil
 | v :: l, v' :: vs', hl, h => .cons (by simpa using h 0 v' rfl) (wkL_of (by simpa using hl) (fun j u hu => by simpa using h (j + 1) u (by simpa using hu)))
 | [], _ :: _, hl, _ => by simp at hl
 | _ :: _, [], hl, _ => by simp at hl
theorem wkL_G {l vs' : List V} {n : Nat} (hn : Nat.beq l.length n = true) (g : WkG l 0 vs') (hl : vs'.length = n) : WkL l vs' :=
 wkL_of (by rw [hl, Nat.eq_of_beq_eq_true hn]) (fun j v' h => by have := wkG_get g j v' h; rwa [Nat.zero_add] at this)
theorem aggN_wk {n : Nat} {v : V} {l vs' : List V} (h : v.aggN n = some l) (g : WkG l 0 vs') (hl : vs'.length = n := by rfl) : Wk v (.agg vs') := by
 unfold V.aggN at h
 split at h
 ·rename_i vs
  cases hb : Nat.beq vs.length n with
  | false => simp [hb] at h
  | true => simp [hb] at h; subst h; exact .agg (wkL_G hb g hl)
 ·cases h
theorem tupN_wk {n : Nat} {v : V} {l vs' : List V} (h : v.tupN n = some l) (g : WkG l 0 vs') (hl : vs'.length = n := by rfl) : Wk v (.tup vs') := by
 unfold V.tupN at h
 split at h
 ·rename_i vs
  cases hb : Nat.beq vs.length n with
  | false => simp [hb] at h
  | true => simp [hb] at h; subst h; exact .tup (wkL_G hb g hl)
 ·cases h
theorem fnN_wk {f n : Nat} {v : V} {l vs' : List V} (h : v.fnN f n = some l) (g : WkG l 0 vs') (hl : vs'.length = n := by rfl) : Wk v (.fn f vs') := by
 unfold V.fnN at h
 split at h
 ·rename_i f' vs
  cases hf : Nat.beq f' f with
  | false => simp [hf] at h
  | true =>
   cases hb : Nat.beq vs.length n with
   | false => simp [hf, hb] at h
   | true => simp [hf, hb] at h; subst h; rw [Nat.eq_of_beq_eq_true hf]; exact .fn (wkL_G hb g hl)
 ·cases h
theorem cellsN_wk {n i : Nat} {s : Sig} {l vs' : List V} (h : cellsN n s i = some l) (g : WkG l 0 vs') (hl : vs'.length = n := by rfl) : s[i]? = some (some l) /\ WkL l vs' := by
 unfold cellsN at h
 split at h
 ·rename_i cs hs
  cases hb : Nat.beq cs.length n with
  | false => simp [hb] at h
  | true => simp [hb] at h; subst h; exact ⟨hs, wkL_G hb g hl⟩
 ·cases h
theorem args_wk {n : Nat} {vs vs' : List V} (hn : Nat.beq vs.length n = true) (g : WkG vs 0 vs') (hl : vs'.length = n := by rfl) : WkL vs vs' := wkL_G hn g hl
theorem forall_getD {α : Type} {p : α -> Prop} {d : α} {l : List α} (n : Nat) (hl : l.length = n) (h : ∀ i, i < n -> p (l.getD i d)) : ∀ a ∈ l, p a := by
 intro a ha
 obtain ⟨i, hi⟩ := List.mem_iff_getElem?.1 ha
 have hlt := (List.getElem?_eq_some_iff.1 hi).1
 have := h i (by omega)
 rw [List.getD_eq_getElem?_getD, hi] at this
 exact this
theorem getD_mem {α : Type} {d : α} {l : List α} {i : Nat} (h : Nat.blt i l.length = true) : l.getD i d ∈ l := by
 have h : i < l.length := by simpa using h
 rw [List.getD_eq_getElem?_getD, List.getElem?_eq_getElem h]
 exact List.getElem_mem h
theorem callee_if.{u} {vs : List V} {sg : Sig} {n : Nat} {α : Type u} {X : Option α} {y : α} (h : (bif Nat.beq vs.length n && sg.isEmpty then X else none) = some y) : Nat.beq vs.length n = true /\ sg = [] /\ X = some y := by
 cases h1 : Nat.beq vs.length n with
 | false => simp [h1] at h
 | true =>
  cases sg with
  | nil => simp [h1] at h; exact ⟨rfl, rfl, h⟩
  | cons a b => simp [h1] at h
theorem codeOk_scopes {P : Program} : ∀ {c : Code}, CodeOk P c -> ∀ a ∈ scopesOf c, CodeOk P a
 | _, .seq hx hy, a, h => by
  simp only [scopesOf, List.mem_append] at h
  rcases h with h | h
  ·exact codeOk_scopes hx a h
  ·exact codeOk_scopes hy a h
 | _, .cond _ hx hy, a, h => by
  simp only [scopesOf, List.mem_append] at h
  rcases h with h | h
  ·exact codeOk_scopes hx a h
  ·exact codeOk_scopes hy a h
 | _, .block _ hx, a, h => codeOk_scopes hx a (by simpa [scopesOf] using h)
 | _, .loop hx, a, h => codeOk_scopes hx a (by simpa [scopesOf] using h)
 | _, .scope hx, a, h => by
  simp only [scopesOf, List.mem_cons] at h
  rcases h with rfl | h
  ·exact hx
  ·exact codeOk_scopes hx a h
 | _, .text .., a, h => by simp [scopesOf] at h
 | _, .draw .., a, h => by simp [scopesOf] at h
 | _, .skip, a, h => by simp [scopesOf] at h
 | _, .label _, a, h => by simp [scopesOf] at h
 | _, .ret, a, h => by simp [scopesOf] at h
 | _, .exit _, a, h => by simp [scopesOf] at h
 | _, .goto _, a, h => by simp [scopesOf] at h
 | _, .range .., a, h => by simp [scopesOf] at h
 | _, .refuse _, a, h => by simp [scopesOf] at h
theorem codeOk_loops {P : Program} : ∀ {c : Code}, CodeOk P c -> ∀ a ∈ loopsOf c, CodeOk P a
 | _, .seq hx hy, a, h => by
  simp only [loopsOf, List.mem_append] at h
  rcases h with h | h
  ·exact codeOk_loops hx a h
  ·exact codeOk_loops hy a h
 | _, .cond _ hx hy, a, h => by
  simp only [loopsOf, List.mem_append] at h
  rcases h with h | h
  ·exact codeOk_loops hx a h
  ·exact codeOk_loops hy a h
 | _, .block _ hx, a, h => codeOk_loops hx a (by simpa [loopsOf] using h)
 | _, .scope hx, a, h => codeOk_loops hx a (by simpa [loopsOf] using h)
 | _, .loop hx, a, h => by
  simp only [loopsOf, List.mem_cons] at h
  rcases h with rfl | h
  ·exact hx
  ·exact codeOk_loops hx a h
 | _, .text .., a, h => by simp [loopsOf] at h
 | _, .draw .., a, h => by simp [loopsOf] at h
 | _, .skip, a, h => by simp [loopsOf] at h
 | _, .label _, a, h => by simp [loopsOf] at h
 | _, .ret, a, h => by simp [loopsOf] at h
 | _, .exit _, a, h => by simp [loopsOf] at h
 | _, .goto _, a, h => by simp [loopsOf] at h
 | _, .range .., a, h => by simp [loopsOf] at h
 | _, .refuse _, a, h => by simp [loopsOf] at h
def argsFrom : Nat -> List V -> SEnv
 | _, [] => []
 | i, v :: vs => (i, v.soft) :: argsFrom (i + 1) vs
def resVX (P : Program) (n : Nat) (E : SEnv) (sig : Sig) : ResultVar -> Option V
 | .tmp t => if t < n then look E t else none
 | .cell a t =>
  match (if a < n then (look E a).map V.plain else none), tyAgg P t, tySize P t with
  | some (.ptr id off), some ag, some sz => (match sig[id]? with
   | some (some cs) => partV ag sz off (cs.map V.plain)
   | _ => none)
  | _, _, _ => none
def resAllX (P : Program) (n : Nat) (E : SEnv) (sig : Sig) : List ResultVar -> Option (List V)
 | [] => some []
 | x :: r => match resVX P n E sig x, resAllX P n E sig r with
  | some v, some vs => some (v :: vs)
  | _, _ => none
section
variable {R : Type}
def endX (P : Program) (n : Nat) (rs : List ResultVar) (K : V -> Sig -> Option R) (x : Ex) (E : SEnv) (s : Sig) : Option R :=
 match x with
 | .normal | .ret => (match resAllX P n E s rs with
  | some [v] => K v s
  | some vs => K (.tup (vs.map V.plain)) s
  | none => none)
 | _ => none
def mF (P : Program) (spec : Spec) (f : FuncId) (vs : List V) (sig : Sig) (K : V -> Sig -> Option R) : Option R :=
 match P.funcs[f]? with
 | some fn => (match fn.body with
  | some c => mX P spec (vs.length + (fn.ntmps - vs.length)) c (argsFrom 0 vs) sig.soft (endX P (vs.length + (fn.ntmps - vs.length)) fn.results.toList K)
  | none => none)
 | none => none
end
section
variable {P : Program} {w w0 : World} {g g0 : Gh} {e e' : Env} {a : Act} {sig sig' : Sig} {k m0 : Nat}
theorem look_args : ∀ {vs : List V} {i d : Nat} {v : V}, look (argsFrom i vs) d = some v -> ∃ j u, d = i + j /\ vs[j]? = some u /\ v = u.soft
 | [], i, d, v, h => by simp [argsFrom, look] at h
 | u :: vs, i, d, v, h => by
  simp only [argsFrom, look_cons] at h
  split at h
  ·rename_i hd
   simp only [Option.some.injEq] at h
   exact ⟨0, u, by omega, rfl, h.symm⟩
  ·obtain ⟨j, u', h1, h2, h3⟩ := look_args h
   exact ⟨j + 1, u', by omega, by simpa using h2, h3⟩
theorem resVX_ok {n : Nat} {E : SEnv} {y : ResultVar} {v : V} (h : resVX P n E sig y = some v) : resV P (E.env n) sig y = some v := by
 cases y with
 | tmp t =>
  simp only [resVX] at h
  split at h
  ·rename_i ht
   simp only [resV, SEnv.env_at ht, SEnv.at_of h]
  ·cases h
 | cell x t =>
  simp only [resVX] at h
  by_cases hx : x < n
  ·simp only [hx, if_true] at h
   split at h
   ·rename_i id off ag sz h1 h2 h3
    cases hl : look E x with
    | none => simp [hl] at h1
    | some u =>
     simp [hl] at h1
     simp only [resV, SEnv.env_at hx, SEnv.at_of hl, h1, h2, h3]
     exact h
   ·cases h
  ·simp [hx] at h
theorem resAllX_ok {n : Nat} {E : SEnv} : ∀ {ys : List ResultVar} {vs : List V}, resAllX P n E sig ys = some vs -> resAll P (E.env n) sig ys = some vs
 | [], vs, h => by simp only [resAllX] at h; simp only [resAll]; exact h
 | y :: ys, vs, h => by
  simp only [resAllX] at h
  split at h
  ·rename_i v us h1 h2
   simp only [Option.some.injEq] at h
   subst h
   simp only [resAll, resVX_ok h1, resAllX_ok h2]
  ·cases h
theorem Sem.known {n : Nat} {c : Code} {E : SEnv} {Q : Ex -> Env -> Sig -> Prop} (hk : Knows n e E) (h : Sem P m0 c (E.env n) sig.soft Q) : Sem P m0 c e sig Q :=
 fun w0 g0 a w g hd hS hx => h w0 g0 a w g hd (hS.known hk) hx
theorem Sem.of_ev {call : CallF} (hcall : CallFSound P call) {n : Nat} {c : Code} {x : Ex} {Q : Ex -> Env -> Sig -> Prop} (hok : CodeOk P c) (hev : evCode P call n c e sig = some (x, e', sig')) (hq : Q x e' sig') : Sem P m0 c e sig Q := by
 intro w0 g0 a w g hd hS hx
 refine wp_mono ((code_sound hcall n).1 _ _ _ _ _ _ hev hok a w g hS) ?_
 rintro y a1 w1 ⟨rfl, g1, hS1, hx1⟩
 exact ⟨x, _, _, g1, hq, rfl, hS1, hx.trans hx1⟩
theorem call_of_sem0 {f : FuncId} {fn : Func} {c : Code} {vs : List V} {res : V} (hfn : P.funcs[f]? = some fn) (hb : fn.body = some c)
  (h : Sem P sig.length c (vs ++ List.replicate (fn.ntmps - vs.length) .undef) sig fun x e1 s1 => x.ends = true /\ ∃ us v, resAll P e1 s1 fn.results.toList = some us /\ (us = [v] \/ (us.length ≠ 1 /\ v = .tup (us.map V.plain))) ∧
   Wk v res /\ res.ren (below sig.length) = some res /\ WkS sig.length s1 sig') : CallSound P f vs sig res sig' := by
 intro w g args hsz hrel hB hW hO hdom
 refine calls_of_wp hfn hb ?_
 let a0 : Act := { tmps := args ++ Array.replicate (fn.ntmps - args.size) undef, defers := [] }
 have hS0 : St P (vs ++ List.replicate (fn.ntmps - vs.length) .undef) sig a0 w g := by
  refine ⟨⟨by simp [a0, hsz], fun s hs => ?_⟩, hB, hW, fun b k h => ?_, fun b h => ?_, rfl⟩
  ·rw [at_append]
   show RelV w g (.slot s) _ ((args ++ Array.replicate _ undef).getD s undef)
   rw [getD_append]
   by_cases hlt : s < vs.length
   ·have hx : s < args.size := by omega
    have := hrel s _ _ (List.getElem?_eq_getElem hlt) (Array.getElem?_eq_getElem hx)
    simpa [hlt, hx] using this
   ·have hx : args.size <= s := by omega
    simp [List.getElem?_eq_none (Nat.not_lt.1 hlt), Array.getElem?_eq_none hx, RelV]
  ·rcases hO b _ h with ⟨s, _, h1⟩ | ⟨id, off, h1⟩ <;> simp at h1
  ·rcases hO b _ h with ⟨s, _, h1⟩ | ⟨id, off, h1⟩ <;> simp at h1
 refine wp_mono (h w g a0 w g hdom hS0 (Ext.refl w g)) ?_
 rintro y a1 w1 ⟨x, e1, sig1, g1, ⟨hends, us, v, hres, hv, hwk, hren, hws⟩, rfl, hS1, hext⟩
 have hS2 : St P (List.replicate e1.length .any) sig' a1 w1 (g1.cut sig.length) := by
  refine hS1.cut ⟨by simp, fun d hd => ?_⟩ hws
  have : Env.at (List.replicate e1.length V.any) d = .any := by simp [Env.at, hd]
  rw [this]
  exact ⟨Wk.any _, rfl⟩
 have hext2 : Ext w g w1 (g1.cut sig.length) := hext.cut hdom (Nat.le_refl _)
 have hgoal : a1.defers = [] /\ ∃ v, (results fn a1.tmps).run P w1 = .ok v w1 /\ (∃ x g', Ending.returned v = .returned x /\ RelV w1 g' .res res x /\ SimB w1 g' sig' /\ WF P w1 g' /\ Ext w g w1 g' /\ ∀ b l, g'.O b = some l -> l = .res \/ ∃ id off, l = .box id off) := by
  refine ⟨hS1.defers, ?_⟩
  have hkeep : ∀ (s : Nat), ∃ O : Nat -> Option Loc, (∀ b, (g1.cut sig.length).O b = some (.slot s) -> O b = some .res) /\ (∀ b id off, (g1.cut sig.length).O b = some (.box id off) -> O b = some (.box id off)) /\ (∀ b l, O b = some l -> l = .res \/ ∃ id off, l = .box id off) /\ ∀ b l, O b = some l -> ∃ l', (g1.cut sig.length).O b = some l' := by
   intro s
   refine ⟨fun b => match (g1.cut sig.length).O b with | some (.slot s') => if s' = s then some .res else none | some (.box id off) => some (.box id off) | _ => none, ?_, ?_, ?_, ?_⟩
   ·intro b h; simp [h]
   ·intro b id off h; simp [h]
   ·intro b l h
    simp only at h
    split at h
    ·split at h <;> simp at h; exact .inl h.symm
    ·simp at h; exact .inr ⟨_, _, h.symm⟩
    ·cases h
   ·intro b l h
    simp only at h
    split at h
    ·exact ⟨_, by assumption⟩
    ·exact ⟨_, by assumption⟩
    ·cases h
  have fin : ∀ (s : Nat) (u : Value), (results fn a1.tmps).run P w1 = .ok u w1 -> RelV w1 g1 (.slot s) v u -> ∃ v, (results fn a1.tmps).run P w1 = .ok v w1 /\ (∃ x g', Ending.returned v = .returned x /\ RelV w1 g' .res res x /\ SimB w1 g' sig' /\ WF P w1 g' /\ Ext w g w1 g' /\ ∀ b l, g'.O b = some l -> l = .res \/ ∃ id off, l = .box id off) := by
   intro s u hu hru
   have hru2 : RelV w1 (g1.cut sig.length) (.slot s) res u := RelV.cut hS1.W.noNil (hwk _ _ _ _ hru) hren (fun _ _ hh => by cases hh)
   obtain ⟨O, h1, h2, h3, h4⟩ := hkeep s
   exact ⟨u, hu, u, (g1.cut sig.length).owners O, rfl, hru2.owners hS2.W h1, hS2.B.owners hS2.W h2, hS2.W.owners (fun b h => by rcases h3 b _ h with h | ⟨_, _, h⟩ <;> simp at h) h4, hext2.trans (Ext.owners w1 (g1.cut sig.length) h4), h3⟩
  obtain ⟨ys, k1, k2, k3⟩ := mapM_run hS1.E hS1.B hres
  rcases hv with hv | ⟨hne, hv⟩
  ·obtain ⟨u, rfl, t, hr⟩ := k3 v hv
   refine fin t u ?_ hr
   rw [results_def, Array.mapM_eq_mapM_toList]
   simp [k1]
  ·subst hv
   refine fin 0 (.tuple ys.toArray) ?_ (by simp only [RelV]; exact ⟨ys.toArray, rfl, by simpa using k2⟩)
   rw [results_def, Array.mapM_eq_mapM_toList]
   have hlen : ys.length ≠ 1 := by
    have := k2.length
    simp at this
    rw [<- this]
    exact hne
   simp [k1, hlen]
 cases x with
 | normal => exact hgoal
 | ret => exact hgoal
 | exit id => simp [Ex.ends] at hends
 | goto l => simp [Ex.ends] at hends
theorem call_of_sem {f : FuncId} {fn : Func} {c : Code} {vs : List V} {res : V} {n : Nat} (hfn : P.funcs[f]? = some fn) (hb : fn.body = some c) (hn : n = vs.length + (fn.ntmps - vs.length))
  (h : Sem P sig.length c (SEnv.env n (argsFrom 0 vs)) sig.soft fun x e1 s1 => x.ends = true /\ ∃ us v, resAll P e1 s1 fn.results.toList = some us /\ (us = [v] \/ (us.length ≠ 1 /\ v = .tup (us.map V.plain))) ∧
   Wk v res /\ res.ren (below sig.length) = some res /\ WkS sig.length s1 sig') : CallSound P f vs sig res sig' := by
 have hknow : Knows n (vs ++ List.replicate (fn.ntmps - vs.length) .undef) (argsFrom 0 vs) := by
  refine ⟨by simp [hn], fun d v hv hd => ?_⟩
  obtain ⟨j, u, h1, h2, h3⟩ := look_args hv
  refine ⟨u, ?_, h3⟩
  rw [at_append, show d = j by omega]
  simp [h2]
 exact call_of_sem0 hfn hb (h.known hknow)
theorem endX_some {R : Type} {n : Nat} {rs : List ResultVar} {K : V -> Sig -> Option R} {x : Ex} {E : SEnv} {s : Sig} {r : R} (h : endX P n rs K x E s = some r) :
  x.ends = true /\ ∃ us v, resAll P (SEnv.env n E) s rs = some us /\ (us = [v] \/ (us.length ≠ 1 /\ v = .tup (us.map V.plain))) /\ K v s = some r := by
 have key : (match resAllX P n E s rs with
  | some [v] => K v s
  | some vs => K (.tup (vs.map V.plain)) s
  | none => none) = some r -> ∃ us v, resAll P (SEnv.env n E) s rs = some us /\ (us = [v] \/ (us.length ≠ 1 /\ v = .tup (us.map V.plain))) /\ K v s = some r := by
  intro h
  split at h
  ·rename_i v hv
   exact ⟨_, v, resAllX_ok hv, .inl rfl, h⟩
  ·rename_i vs hne hv
   refine ⟨_, _, resAllX_ok hv, .inr ⟨?_, rfl⟩, h⟩
   intro hl
   obtain ⟨v, rfl⟩ := List.length_eq_one_iff.1 hl
   exact hne v rfl
  ·cases h
 cases x with
 | normal => exact ⟨rfl, key h⟩
 | ret => exact ⟨rfl, key h⟩
 | exit id => simp [endX] at h
 | goto l => simp [endX] at h
theorem mF_sound {R : Type} {spec : Spec} {f : FuncId} {vs : List V} {K : V -> Sig -> Option R} {r : R} {res : V} (hP : ProgOk P) (hC : CallsOk P spec) {fn : Func} {c : Code} (hfn : P.funcs[f]? = some fn) (hb : fn.body = some c)
  (hL : ∀ a ∈ loopsOf c, LoopOk P spec sig.length (vs.length + (fn.ntmps - vs.length)) a) (hJ : ∀ a ∈ scopesOf c, JumpOk P spec sig.length (vs.length + (fn.ntmps - vs.length)) a) (h : mF P spec f vs sig K = some r)
  (hK : ∀ v s, K v s = some r -> Wk v res /\ res.ren (below sig.length) = some res /\ WkS sig.length s sig') : CallSound P f vs sig res sig' := by
 unfold mF at h
 simp only [hfn, hb] at h
 refine call_of_sem hfn hb rfl ((mX_sound hC (hP f fn c hfn hb).1 hL hJ h).mono ?_)
 rintro x e1 s1 ⟨E', rfl, hx⟩
 obtain ⟨h1, us, v, h2, h3, h4⟩ := endX_some hx
 obtain ⟨k1, k2, k3⟩ := hK v s1 h4
 exact ⟨h1, us, v, h2, h3, k1, k2, k3⟩
theorem mF_ok {R : Type} {spec : Spec} {f : FuncId} {vs : List V} {K : V -> Sig -> Option R} {r : R} {res : V} (hP : ProgOk P) (hC : CallsOk P spec) {fn : Func} {c : Code} (hfn : P.funcs[f]? = some fn) (hb : fn.body = some c)
  (hL : ∀ a ∈ loopsOf c, LoopOk P spec sig.length (vs.length + (fn.ntmps - vs.length)) a) (hJ : ∀ a ∈ scopesOf c, JumpOk P spec sig.length (vs.length + (fn.ntmps - vs.length)) a) (h : mF P spec f vs sig K = some r)
  (hK : ∀ v s, K v s = some r -> Wk v res /\ res.ren (below sig.length) = some res /\ WkS sig.length s sig') : FuncOk P f vs sig res sig' :=
 ⟨mF_sound hP hC hfn hb hL hJ h hK, fn, hfn, (hP f fn c hfn hb).2, by simp [hb]⟩
theorem nil_split {f : FuncId} {sz : Nat} {m : List T -> Option (List T)} {fn : Func} {c : Code} (hP : ProgOk P) (hfn : P.funcs[f]? = some fn) (hb : fn.body = some c) (h1 : CallSound P f [.nil] [] .nil []) (h2 : CallSound P f [.t .vac] [] (.own sz []) [])
  (h0 : ∀ r, m [] = some r -> r = []) (h3 : ∀ y ys r, m (y :: ys) = some r -> CallSound P f [.t (.list (y :: ys))] [] (.own sz r) []) (a : List T) (r : List T) (h : m a = some r) : FuncOk P f [.t (.list a)] [] (.own sz r) [] := by
 refine ⟨?_, fn, hfn, (hP f fn c hfn hb).2, by simp [hb]⟩
 cases a with
 | cons y ys => exact h3 y ys r h
 | nil =>
  have := h0 r h
  subst this
  intro w g args hsz hrel hB hW hO hdom
  have hs1 : args.size = 1 := hsz
  have hget : args[0]? = some (args[0]'(by omega)) := Array.getElem?_eq_getElem (by omega)
  have hr := hrel 0 _ _ rfl hget
  generalize args[0]'(by omega) = x at hget hr
  have one : ∀ {u : V}, RelV w g (.slot 0) u x -> ∀ (i : Nat) (v : V) (y : Value), [u][i]? = some v -> args[i]? = some y -> RelV w g (.slot i) v y := by
   intro u hu i v y hv hy
   cases i with
   | zero =>
    simp at hv
    subst hv
    rw [hget] at hy
    simp only [Option.some.injEq] at hy
    subst hy
    exact hu
   | succ i => simp at hv
  simp only [RelV] at hr
  rcases hr.toList with ⟨_, rfl | ⟨a0, rfl⟩⟩ | ⟨b, o, cap, sz', lim, rfl, _, hl⟩
  ·refine (h1 w g args hsz (one (by simp only [RelV])) hB hW hO hdom).mono ?_
   rintro e w' ⟨y, g', q1, q2, q3⟩
   exact ⟨y, g', q1, Wk.nilOwn sz _ _ _ _ q2, q3⟩
  ·exact h2 w g args hsz (one (by simp only [RelV]; exact .vacE a0)) hB hW hO hdom
  ·exact h2 w g args hsz (one (by simp only [RelV]; exact .vac b o cap lim hl.isLim (by have := hl.le; simp at this; omega))) hB hW hO hdom
theorem WkS.none (s : Sig) : WkS 0 s [] := ⟨rfl, fun _ _ h => absurd h (Nat.not_lt_zero _)⟩
structure WkSg (sig sig' : Sig) : Prop where
 len : sig'.length = sig.length
 at_ : ∀ (id : Nat) (cs : List V), sig[id]? = some (some cs) -> ∃ cs', sig'[id]? = some (some cs') /\ WkL cs cs'
theorem WkSg.nil : WkSg [] [] := ⟨rfl, fun id cs h => by simp at h⟩
inductive WkT (sg : Sig) : Nat -> Sig -> Prop
 | nil {i : Nat} : WkT sg i []
 | cons {i : Nat} {cs cs' : List V} {s : Sig} : sg[i]? = some (some cs) /\ WkL cs cs' -> WkT sg (i + 1) s -> WkT sg i (some cs' :: s)
theorem wkT_get {sg : Sig} : ∀ {i : Nat} {s : Sig}, WkT sg i s -> ∀ (j : Nat) (cs : List V), sg[i + j]? = some (some cs) -> j < s.length -> ∃ cs', s[j]? = some (some cs') /\ WkL cs cs'
 | i, _, .nil, j, cs, _, hl => by simp at hl
 | i, _, .cons h1 h2, 0, cs, h, _ => by
  rw [Nat.add_zero, h1.1] at h
  simp only [Option.some.injEq] at h
  subst h
  exact ⟨_, rfl, h1.2⟩
 | i, _, .cons h1 h2, j + 1, cs, h, hl => by
  obtain ⟨cs', q1, q2⟩ := wkT_get h2 j cs (by rw [show i + 1 + j = i + (j + 1) by omega]; exact h) (by simpa using hl)
  exact ⟨cs', by simpa using q1, q2⟩
theorem wkSg_of {sg s : Sig} {n : Nat} (hn : Nat.beq sg.length n = true) (h : WkT sg 0 s) (hl : s.length = n := by rfl) : WkSg sg s :=
 ⟨by rw [hl, Nat.eq_of_beq_eq_true hn], fun id cs hid => by
  have hlt := (List.getElem?_eq_some_iff.1 hid).1
  exact wkT_get h id cs (by rw [Nat.zero_add]; exact hid) (by rw [hl, <- Nat.eq_of_beq_eq_true hn]; exact hlt)⟩
theorem callee_sig.{u} {vs : List V} {sg : Sig} {n m : Nat} {α : Type u} {X : Option α} {y : α} (h : (bif Nat.beq vs.length n && Nat.beq sg.length m then X else none) = some y) : Nat.beq vs.length n = true /\ Nat.beq sg.length m = true /\ X = some y := by
 cases h1 : Nat.beq vs.length n with
 | false => simp [h1] at h
 | true =>
  cases h2 : Nat.beq sg.length m with
  | false => simp [h1, h2] at h
  | true => simp [h1, h2] at h; exact ⟨rfl, rfl, h⟩
def orC (a b : Option CallM) : Option CallM := match a with
 | some x => some x
 | none => b
theorem orC_some {a b : Option CallM} {x : CallM} (h : orC a b = some x) : a = some x \/ b = some x := by
 cases a with
 | none => exact .inr h
 | some y => exact .inl h
theorem FuncOk.wk {f : FuncId} {vs vs' : List V} {res : V} {s : Sig} (h : FuncOk P f vs' sig' res s) (hv : WkL vs vs') (hs : WkSg sig sig') : FuncOk P f vs sig res s := by
 obtain ⟨h1, h2⟩ := h
 refine ⟨?_, h2⟩
 intro w g args hsz hrel hB hW hO hdom
 refine h1 w g args (by rw [hsz, hv.length]) (fun i v' x hv' hx => ?_) ⟨fun id b hb => ?_, hB.inj, hB.apart⟩ hW (fun b l hb => ?_) (fun id b hb => by rw [hs.len]; exact hdom id b hb)
 ·have hlt : i < vs.length := by rw [<- hv.length]; exact (List.getElem?_eq_some_iff.1 hv').1
  exact hv.get i _ v' (List.getElem?_eq_getElem hlt) hv' _ _ _ _ (hrel i _ x (List.getElem?_eq_getElem hlt) hx)
 ·obtain ⟨cs, c, el, k1, k2, k3, k4⟩ := hB.box id b hb
  obtain ⟨cs', q1, q2⟩ := hs.at_ id cs k1
  refine ⟨cs', c, el, q1, k2, by rw [k3, q2.length], fun j v x hv' hx => ?_⟩
  have hjl : j < cs.length := by rw [<- q2.length]; exact (List.getElem?_eq_some_iff.1 hv').1
  obtain ⟨a1, a2⟩ := k4 j _ x (List.getElem?_eq_getElem hjl) hx
  exact ⟨q2.get j _ v (List.getElem?_eq_getElem hjl) hv' _ _ _ _ a1, a2⟩
 ·rw [hv.length]; exact hO b l hb
def WkA (k : Nat) (E E' : SEnv) : Prop := ∀ d v, look E' d = some v -> Wk (E.at d) v /\ v.ren (below k) = some v
theorem WkA.nil {E : SEnv} : WkA k E [] := fun d v h => by simp [look] at h
theorem WkA.cons {E E' : SEnv} {d : Nat} {v : V} (h : Wk (E.at d) v) (hr : v.ren (below k) = some v) (ht : WkA k E E') : WkA k E ((d, v) :: E') := by
 intro d' v' hl
 rw [look_cons] at hl
 split at hl
 ·rename_i hd
  simp only [Option.some.injEq] at hl
  subst hl; subst hd
  exact ⟨h, hr⟩
 ·exact ht d' v' hl
theorem WkA.env {E E' : SEnv} (h : WkA k E E') (n : Nat) : WkE k (E.env n) (E'.env n) := by
 refine ⟨by simp [SEnv.env_length], fun d hd => ?_⟩
 rw [SEnv.env_length] at hd
 rw [SEnv.env_at hd, SEnv.env_at hd]
 cases hl : look E' d with
 | none => simp only [SEnv.at, hl]; exact ⟨Wk.any _, rfl⟩
 | some v =>
  obtain ⟨h1, h2⟩ := h d v hl
  rw [SEnv.at_of hl]
  exact ⟨h1, h2⟩
inductive RenL (k0 : Nat) : List V -> Prop
 | nil : RenL k0 []
 | cons {u : V} {cs : List V} : u.ren (below k0) = some u -> RenL k0 cs -> RenL k0 (u :: cs)
theorem renL_mem {k0 : Nat} : ∀ {cs : List V}, RenL k0 cs -> ∀ u ∈ cs, u.ren (below k0) = some u
 | _, .nil, u, h => by simp at h
 | _, .cons h1 h2, u, h => by
  simp only [List.mem_cons] at h
  rcases h with rfl | h
  ·exact h1
  ·exact renL_mem h2 u h
inductive WkR (k0 : Nat) (sig0 : Sig) : Nat -> Sig -> Prop
 | nil (i : Nat) : WkR k0 sig0 i []
 | cons {i : Nat} {cs cs' : List V} {s : Sig} : sig0[i]? = some (some cs) -> WkL cs cs' -> (∀ u ∈ cs', u.ren (below k0) = some u) -> WkR k0 sig0 (i + 1) s -> WkR k0 sig0 i (some cs' :: s)
 | none {i : Nat} {s : Sig} : sig0[i]? = some none -> WkR k0 sig0 (i + 1) s -> WkR k0 sig0 i (none :: s)
theorem wkR_get : ∀ {i : Nat} {s : Sig}, WkR k sig i s -> ∀ (j : Nat) (cs : List V), j < s.length -> sig[i + j]? = some (some cs) -> ∃ cs', s[j]? = some (some cs') /\ WkL cs cs' /\ ∀ u ∈ cs', u.ren (below k) = some u
 | i, [], _, j, cs, hj, _ => by simp at hj
 | i, _ :: s, .cons h1 h2 h3 h4, 0, cs, hj, hs => by
  rw [Nat.add_zero, h1] at hs
  simp only [Option.some.injEq] at hs
  subst hs
  exact ⟨_, rfl, h2, h3⟩
 | i, _ :: s, .cons h1 h2 h3 h4, j + 1, cs, hj, hs => by
  obtain ⟨cs', q1, q2⟩ := wkR_get h4 j cs (by simpa using hj) (by rw [show i + 1 + j = i + (j + 1) by omega]; exact hs)
  exact ⟨cs', by simpa using q1, q2⟩
 | i, _ :: s, .none h1 h4, 0, cs, hj, hs => by
  rw [Nat.add_zero, h1] at hs
  cases hs
 | i, _ :: s, .none h1 h4, j + 1, cs, hj, hs => by
  obtain ⟨cs', q1, q2⟩ := wkR_get h4 j cs (by simpa using hj) (by rw [show i + 1 + j = i + (j + 1) by omega]; exact hs)
  exact ⟨cs', by simpa using q1, q2⟩
theorem wkR_sig {s : Sig} (h : WkR k sig 0 s) (hl : s.length = k) : WkS k sig s :=
 ⟨hl, fun id cs hid hs => wkR_get h id cs (by omega) (by rw [Nat.zero_add]; exact hs)⟩
theorem loop_step {spec : Spec} {R : Type} {n : Nat} {c : Code} {E : SEnv} {K : Ex -> SEnv -> Sig -> Option R} {x : R} {Q : Ex -> Env -> Sig -> Prop} (hC : CallsOk P spec) (hok : CodeOk P c) (hL : ∀ a ∈ loopsOf c, LoopOk P spec m0 n a) (hJ : ∀ a ∈ scopesOf c, JumpOk P spec m0 n a)
  (h : mX P spec n c E sig K = some x) (hn : ∀ E' s', K .normal E' s' = some x -> SemL P m0 c (SEnv.env n E') s' Q)
  (he : ∀ ex E' s', ex ≠ .normal -> K ex E' s' = some x -> ∃ k e'' s'', m0 <= k /\ WkE k (SEnv.env n E') e'' /\ WkS k s' s'' /\ Q ex e'' s'') : SemL P m0 c (E.env n) sig Q := by
 refine SemL.round ?_
 intro w0 g0 a w g hd hS hx
 refine wp_mono (mX_sound hC hok hL hJ h w0 g0 a w g hd hS hx) ?_
 rintro y a1 w1 ⟨ex, e1, s1, g1, ⟨E', rfl, hK⟩, rfl, hS1, hx1⟩
 cases ex with
 | normal => exact ⟨.normal, _, _, g1, hn E' s1 hK, rfl, hS1, hx1⟩
 | exit id =>
  obtain ⟨k, e2, s2, k0, k1, k2, k3⟩ := he (.exit id) E' s1 (by simp) hK
  exact ⟨.exit id, e2, s2, g1.cut k, k3, rfl, hS1.cut k1 k2, hx1.cut hd k0⟩
 | goto l =>
  obtain ⟨k, e2, s2, k0, k1, k2, k3⟩ := he (.goto l) E' s1 (by simp) hK
  exact ⟨.goto l, e2, s2, g1.cut k, k3, rfl, hS1.cut k1 k2, hx1.cut hd k0⟩
 | ret =>
  obtain ⟨k, e2, s2, k0, k1, k2, k3⟩ := he .ret E' s1 (by simp) hK
  exact ⟨.ret, e2, s2, g1.cut k, k3, rfl, hS1.cut k1 k2, hx1.cut hd k0⟩
theorem scope_step {spec : Spec} {R : Type} {n : Nat} {body c : Code} {E : SEnv} {K : Ex -> SEnv -> Sig -> Option R} {x : R} {Q : Ex -> Env -> Sig -> Prop} (hC : CallsOk P spec) (hok : CodeOk P c) (hL : ∀ a ∈ loopsOf c, LoopOk P spec m0 n a) (hJ : ∀ a ∈ scopesOf c, JumpOk P spec m0 n a)
  (h : mX P spec n c E sig K = some x)
  (he : ∀ ex E' s', K ex E' s' = some x -> (∃ l rest, ex = .goto l /\ findLabel body l = some rest /\ SemC P m0 body rest (SEnv.env n E') s' Q) ∨
   ((∀ l, ex = .goto l -> findLabel body l = none) /\ ∃ k e'' s'', m0 <= k /\ WkE k (SEnv.env n E') e'' /\ WkS k s' s'' /\ Q ex e'' s'')) : SemC P m0 body c (E.env n) sig Q := by
 intro w0 g0 a w g hd hS hx
 refine inScope_of (mX_sound hC hok hL hJ h w0 g0 a w g hd hS hx) ?_
 rintro y a1 w1 ⟨ex, e1, s1, g1, ⟨E', rfl, hK⟩, rfl, hS1, hx1⟩
 rcases he ex E' s1 hK with ⟨l, rest, rfl, hf, hr⟩ | ⟨hn, k, e2, s2, k0, k1, k2, k3⟩
 ·simp only [Ex.to, hf]
  exact hr w0 g0 a1 w1 g1 hd hS1 hx1
 ·have fin : SemQ P w0 g0 Q ex.to a1 w1 := ⟨ex, e2, s2, g1.cut k, k3, rfl, hS1.cut k1 k2, hx1.cut hd k0⟩
  cases ex with
  | goto l =>
   simp only [Ex.to, hn l rfl]
   exact fin
  | normal => exact fin
  | exit id => exact fin
  | ret => exact fin
theorem FuncOk.calls {f : FuncId} {vs : List V} {res : V} {s : Sig} (h : FuncOk P f vs [] res s) (w : World) (g : Gh) (args : Array Value) (hsz : args.size = vs.length)
  (hrel : ∀ (i : Nat) (v : V) (x : Value), vs[i]? = some v -> args[i]? = some x -> RelV w g (.slot i) v x) (hφ : ∀ id, g.φ id = none) (hW : WF P w g) (hO : ∀ b, g.O b = none) :
  Calls P f args w fun e w' => ∃ x g', e = .returned x /\ RelV w' g' .res res x /\ Ext w g w' g' := by
 obtain ⟨h1, _⟩ := h
 refine (h1 w g args hsz hrel ⟨fun id b hb => absurd hb (by simp [hφ id]), fun id id' b hb => absurd hb (by simp [hφ id]), fun id b hb => absurd hb (by simp [hφ id])⟩ hW (fun b l hb => by rw [hO b] at hb; cases hb) (fun id b hb => by rw [hφ id] at hb; cases hb)).mono ?_
 rintro e w' ⟨x, g', h1, h2, _, _, h3, _⟩
 exact ⟨x, g', h1, h2, h3⟩
def evTop (P : Program) (spec : Spec) (n : Nat) (f : FuncId) : Option V :=
 match P.funcs[f]? with
 | some fn => (match fn.body with
  | some c => (match evCode P spec.callF n c (List.replicate fn.ntmps .undef) [] with
   | some (x, e, sig) => if x.ends then (match resAll P e sig fn.results.toList with
    | some [v] => some v
    | _ => none) else none
   | none => none)
  | none => none)
 | none => none
theorem evTop_ok {spec : Spec} {n : Nat} {f : FuncId} {b : Bool} (hP : ProgOk P) (hC : CallsOk P spec) (h : evTop P spec n f = some (.t (.sc (.bool b)))) : FuncOk P f [] [] (.t (.sc (.bool b))) [] := by
 unfold evTop at h
 split at h
 ·rename_i fn hfn
  split at h
  ·rename_i c hb
   split at h
   ·rename_i x e sig hev
    split at h
    ·rename_i hends
     split at h
     ·rename_i v hres
      simp only [Option.some.injEq] at h
      subst h
      refine ⟨?_, fn, hfn, (hP f fn c hfn hb).2, by simp [hb]⟩
      have hc := hP f fn c hfn hb
      exact call_of_sem0 (vs := []) hfn hb (Sem.of_ev (callF_sound hC) hc.1 hev ⟨hends, _, _, hres, .inl rfl, Wk.refl _, rfl, ⟨rfl, fun _ _ h => absurd h (Nat.not_lt_zero _)⟩⟩)
     ·cases h
    ·cases h
   ·cases h
  ·cases h
 ·cases h
inductive ScArgs : List V -> List Value -> Prop
 | nil : ScArgs [] []
 | cons {x : Value} {vs : List V} {xs : List Value} : flat x = true -> ScArgs vs xs -> ScArgs (.t (.sc x) :: vs) (x :: xs)
theorem ScArgs.length : ∀ {vs : List V} {xs : List Value}, ScArgs vs xs -> xs.length = vs.length
 | _, _, .nil => rfl
 | _, _, .cons _ h => by simp [h.length]
theorem ScArgs.get {w : World} {g : Gh} : ∀ {vs : List V} {xs : List Value}, ScArgs vs xs -> ∀ (i : Nat) (l : Loc) (v : V) (x : Value), vs[i]? = some v -> xs[i]? = some x -> RelV w g l v x
 | _, _, .nil, i, l, v, x, h, _ => by simp at h
 | _, _, .cons h _, 0, l, v, x, h1, h2 => by simp at h1 h2; subst h1; subst h2; simp only [RelV]; exact .sc _ h
 | _, _, .cons _ h, i + 1, l, v, x, h1, h2 => h.get i l v x (by simpa using h1) (by simpa using h2)
theorem FuncOk.scalars (hT : Tabs P w) {f : FuncId} {vs : List V} {xs : List Value} {b : Bool} (h : FuncOk P f vs [] (.t (.sc (.bool b))) []) (hx : ScArgs vs xs) :
  Calls P f xs.toArray w fun e w' => e = .returned (.bool b) /\ Below w.heap.size w w' := by
 refine (h.calls w noView xs.toArray (by simp [hx.length]) (fun i v x hv hxx => hx.get i _ v x hv (by simpa using hxx)) (fun _ => rfl) ⟨fun _ _ h => (by cases h), fun _ _ h => (by cases h), fun _ h => (by cases h), fun _ _ h => (by cases h), hT.glob (fun _ => rfl) (fun _ => rfl)⟩ (fun _ => rfl)).mono ?_
 rintro e w' ⟨x, g', rfl, hr, hx⟩
 simp only [RelV] at hr
 exact ⟨by rw [hr.toSc.1], hx.os, hx.tape, hx.output, hx.size, fun k hk => (hx.old k hk (fun _ h => by cases h) rfl).1⟩
end
end Go.Eng
