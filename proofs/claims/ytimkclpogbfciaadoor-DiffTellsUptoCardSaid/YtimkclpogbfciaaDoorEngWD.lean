/- The engine: the symbolic walk is sound: fourth part, code and functions. -/
import Derived.Test.YtimkclpogbfciaaDoorEngWC
import Derived.Test.YtimkclpogbfciaaDoorEngTop
set_option linter.unusedVariables false
set_option linter.unusedSimpArgs false
namespace Go.Eng
open Go.RowKit
def Wk (v v' : V) : Prop := ∀ (w : World) (g : Gh) (l : Loc) (x : Value), RelV w g l v x -> RelV w g l v' x
theorem Wk.refl (v : V) : Wk v v := fun _ _ _ _ h => h
theorem Wk.trans {v v' v'' : V} (h : Wk v v') (k : Wk v' v'') : Wk v v'' := fun w g l x hr => k w g l x (h w g l x hr)
theorem Wk.any (v : V) : Wk v .any := fun _ _ _ _ _ => by simp only [RelV]
theorem Wk.nilOwn (sz : Nat) : Wk .nil (.own sz []) := fun w g l x h => by
 simp only [RelV] at h ⊢; exact .inl ⟨rfl, .inl h⟩
theorem Wk.nilList : Wk .nil (.t (.list [])) := fun w g l x h => by
 simp only [RelV] at h ⊢; subst h; exact .nil
theorem Wk.own0 (sz : Nat) : Wk (.own 0 []) (.own sz []) := fun w g l x h => by
 simp only [RelV] at h ⊢
 rcases h with h | ⟨b, o, cap, lim, h1, h2, h3, h4⟩
 ·exact .inl h
 ·have := h3.pos; omega
theorem Wk.own0' (sz : Nat) (es : List T) : Wk (.own 0 es) (.own sz es) := fun w g l x h => by
 simp only [RelV] at h ⊢
 rcases h with h | ⟨b, o, cap, lim, h1, h2, h3, h4⟩
 ·exact .inl h
 ·have := h3.pos; omega
theorem Wk.ownList (sz : Nat) (es : List T) : Wk (.own sz es) (.t (.list es)) := fun w g l x h => by
 have := RelV.plain (l' := l) h
 simpa only [V.plain] using this
theorem Wk.soft (v : V) : Wk v v.soft := by
 cases v with
 | nil => exact Wk.nilOwn 0
 | _ => exact Wk.refl _
theorem RelL.wk {w : World} {g : Gh} : ∀ {vs vs' : List V} {xs : List Value}, RelL w g vs xs -> vs'.length = vs.length -> (∀ (i : Nat) (v v' : V), vs[i]? = some v -> vs'[i]? = some v' -> Wk v v') -> RelL w g vs' xs
 | [], [], [], h, _, _ => h
 | v :: vs, v' :: vs', x :: xs, h, hl, hw => by
  simp only [RelL] at h ⊢
  exact ⟨hw 0 v v' rfl rfl _ _ _ _ h.1, RelL.wk h.2 (by simpa using hl) (fun i u u' hu hu' => hw (i + 1) u u' (by simpa using hu) (by simpa using hu'))⟩
 | [], _ :: _, _, _, hl, _ => by simp at hl
 | _ :: _, [], _, _, hl, _ => by simp at hl
 | [], [], _ :: _, h, _, _ => by simp [RelL] at h
 | _ :: _, _ :: _, [], h, _, _ => by simp [RelL] at h
inductive WkL : List V -> List V -> Prop
 | nil : WkL [] []
 | cons {v v' : V} {vs vs' : List V} : Wk v v' -> WkL vs vs' -> WkL (v :: vs) (v' :: vs')
theorem WkL.length : ∀ {vs vs' : List V}, WkL vs vs' -> vs'.length = vs.length
 | _, _, .nil => rfl
 | _, _, .cons _ h => by simp [h.length]
theorem WkL.get : ∀ {vs vs' : List V}, WkL vs vs' -> ∀ (i : Nat) (v v' : V), vs[i]? = some v -> vs'[i]? = some v' -> Wk v v'
 | _, _, .nil, i, v, v', h, _ => by simp at h
 | _, _, .cons h _, 0, v, v', h1, h2 => by simp at h1 h2; subst h1; subst h2; exact h
 | _, _, .cons _ h, i + 1, v, v', h1, h2 => WkL.get h i v v' (by simpa using h1) (by simpa using h2)
theorem Wk.agg {vs vs' : List V} (h : WkL vs vs') : Wk (.agg vs) (.agg vs') := fun w g l x hr => by
 simp only [RelV] at hr ⊢
 obtain ⟨xs, h1, h2⟩ := hr
 exact ⟨xs, h1, RelL.wk h2 h.length h.get⟩
theorem Wk.tup {vs vs' : List V} (h : WkL vs vs') : Wk (.tup vs) (.tup vs') := fun w g l x hr => by
 simp only [RelV] at hr ⊢
 obtain ⟨xs, h1, h2⟩ := hr
 exact ⟨xs, h1, RelL.wk h2 h.length h.get⟩
theorem Wk.fn {f : FuncId} {vs vs' : List V} (h : WkL vs vs') : Wk (.fn f vs) (.fn f vs') := fun w g l x hr => by
 simp only [RelV] at hr ⊢
 obtain ⟨xs, h1, h2⟩ := hr
 exact ⟨xs, h1, RelL.wk h2 h.length h.get⟩
def below (k : Nat) (id : Nat) : Option Nat := if id < k then some id else none
def Gh.cut (g : Gh) (k : Nat) : Gh :=
 { F := g.F, φ := fun id => if id < k then g.φ id else none, O := fun b => match g.O b with
   | some (.box id off) => if id < k then some (.box id off) else none
   | o => o }
theorem Gh.cut_φ {g : Gh} {k id b : Nat} (h : (g.cut k).φ id = some b) : id < k /\ g.φ id = some b := by
 simp only [Gh.cut] at h
 split at h
 ·exact ⟨by assumption, h⟩
 ·cases h
theorem Gh.cut_O {g : Gh} {k b : Nat} {l : Loc} (h : (g.cut k).O b = some l) : g.O b = some l := by
 simp only [Gh.cut] at h
 split at h
 ·rename_i hO
  split at h
  ·rw [hO]; exact h
  ·cases h
 ·exact h
theorem RelV.cut {w : World} {g : Gh} {k : Nat} {l : Loc} {v : V} {x : Value} (hn : ∀ b, g.O b ≠ some .nil) (h : RelV w g l v x) (hv : v.ren (below k) = some v) (hl : ∀ id off, l = .box id off -> id < k) : RelV w (g.cut k) l v x := by
 refine RelV.ren (g := g) (g2 := g.cut k) (ρ := below k) (fun id j b h1 h2 => ?_) rfl hn (fun b hb => ?_) h hv
 ·simp only [below] at h1
  split at h1
  ·rename_i hlt
   simp only [Option.some.injEq] at h1
   subst h1
   simp only [Gh.cut, if_pos hlt]; exact h2
  ·cases h1
 ·simp only [Gh.cut, hb]
  cases l with
  | box id off => simp only [if_pos (hl id off rfl)]
  | _ => rfl
structure WkS (k : Nat) (sig sig' : Sig) : Prop where
 len : sig'.length = k
 at_ : ∀ id cs, id < k -> sig[id]? = some (some cs) -> ∃ cs', sig'[id]? = some (some cs') /\ WkL cs cs' /\ ∀ u ∈ cs', u.ren (below k) = some u
structure WkE (k : Nat) (e e' : Env) : Prop where
 len : e'.length = e.length
 at_ : ∀ d, d < e.length -> Wk (e.at d) (e'.at d) /\ (e'.at d).ren (below k) = some (e'.at d)
section
variable {P : Program} {w w0 : World} {g g0 : Gh} {e e' : Env} {a : Act} {sig sig' : Sig} {k m0 : Nat}
theorem St.cut (h : St P e sig a w g) (he : WkE k e e') (hs : WkS k sig sig') : St P e' sig' a w (g.cut k) := by
 have hO : ∀ b l, (g.cut k).O b = some l -> g.O b = some l := fun b l => Gh.cut_O
 refine ⟨⟨by rw [h.E.size, he.len], fun s hs' => ?_⟩, ⟨fun id b hb => ?_, fun id id' b h1 h2 => h.B.inj id id' b (Gh.cut_φ h1).2 (Gh.cut_φ h2).2, fun id b hb => h.B.apart id b (Gh.cut_φ hb).2⟩,
  ⟨h.W.lt, fun id b hb => h.W.ltφ id b (Gh.cut_φ hb).2, fun b hb => h.W.noNil b (hO b _ hb), fun b l hb => h.W.own b l (hO b l hb), h.W.globs (Nat.le_refl _) (fun _ _ => rfl) (fun b hb => by
   cases hq : (g.cut k).O b with
   | none => rfl
   | some l => have := hO b l hq; rw [(h.W.glob b hb).2.2.1] at this; cases this) (fun b hb id hid => (h.W.glob b hb).2.2.2 id (Gh.cut_φ hid).2)⟩,
  fun b j hb => h.noArg b j (hO b _ hb), fun b hb => h.noRes b (hO b _ hb), h.defers⟩
 ·have hlt : s < e.length := by rw [<- he.len]; exact hs'
  obtain ⟨h1, h2⟩ := he.at_ s hlt
  exact RelV.cut h.W.noNil (h1 _ _ _ _ (h.E.at_ s hlt)) h2 (fun _ _ hh => by cases hh)
 ·obtain ⟨hlt, hb⟩ := Gh.cut_φ hb
  obtain ⟨cs, c, el, h1, h2, h3, h4⟩ := h.B.box id b hb
  obtain ⟨cs', k1, k2, k3⟩ := hs.at_ id cs hlt h1
  refine ⟨cs', c, el, k1, h2, by rw [h3, k2.length], fun j v x hv hx => ?_⟩
  have hjl : j < cs.length := by rw [<- k2.length]; exact (List.getElem?_eq_some_iff.1 hv).1
  obtain ⟨q1, q2⟩ := h4 j _ x (List.getElem?_eq_getElem hjl) hx
  refine ⟨RelV.cut h.W.noNil (k2.get j _ v (List.getElem?_eq_getElem hjl) hv _ _ _ _ q1) (k3 v (List.mem_of_getElem? hv)) (fun id' off hh => by cases hh; exact hlt), q2⟩
theorem Ext.cut (h : Ext w0 g0 w g) (hd : ∀ id b, g0.φ id = some b -> id < m0) (hk : m0 <= k) : Ext w0 g0 w (g.cut k) := by
 refine ⟨h.size, h.keeps, h.old, h.os, h.tape, h.output, fun id b hb => ?_, fun id b hb => h.box id b (Gh.cut_φ hb).2, fun b l hb => h.own b l (Gh.cut_O hb)⟩
 have := hd id b hb
 simp only [Gh.cut]
 rw [if_pos (by omega)]
 exact h.keepφ id b hb
theorem St.known {n : Nat} {E : SEnv} (h : St P e sig a w g) (hk : Knows n e E) : St P (E.env n) sig.soft a w g := by
 refine ⟨⟨by rw [h.E.size, hk.1, SEnv.env_length], fun s hs => ?_⟩, ⟨fun id b hb => ?_, h.B.inj, h.B.apart⟩, h.W, h.noArg, h.noRes, h.defers⟩
 ·rw [SEnv.env_length] at hs
  rw [SEnv.env_at hs]
  cases hl : look E s with
  | none => simp only [SEnv.at, hl, RelV]
  | some v =>
   obtain ⟨u, h1, h2⟩ := hk.2 s v hl hs
   rw [SEnv.at_of hl, h2, <- h1]
   exact Wk.soft _ _ _ _ _ (h.E.at_ s (by rw [hk.1]; exact hs))
 ·obtain ⟨cs, c, el, h1, h2, h3, h4⟩ := h.B.box id b hb
  refine ⟨cs.map V.soft, c, el, by simp [Sig.soft, h1], h2, by simp [h3], fun j v x hv hx => ?_⟩
  simp only [List.getElem?_map] at hv
  cases hj : cs[j]? with
  | none => simp [hj] at hv
  | some u =>
   simp [hj] at hv
   subst hv
   obtain ⟨q1, q2⟩ := h4 j u x hj hx
   exact ⟨Wk.soft _ _ _ _ _ q1, q2⟩
def SemQ (P : Program) (w0 : World) (g0 : Gh) (Q : Ex -> Env -> Sig -> Prop) : Exit -> Act -> World -> Prop :=
 fun y a' w' => ∃ x e' sig' g', Q x e' sig' /\ y = x.to /\ St P e' sig' a' w' g' /\ Ext w0 g0 w' g'
def Sem (P : Program) (m0 : Nat) (c : Code) (e : Env) (sig : Sig) (Q : Ex -> Env -> Sig -> Prop) : Prop :=
 ∀ w0 g0 a w g, (∀ id b, g0.φ id = some b -> id < m0) -> St P e sig a w g -> Ext w0 g0 w g -> c.wp P (SemQ P w0 g0 Q) a w
def SemL (P : Program) (m0 : Nat) (c : Code) (e : Env) (sig : Sig) (Q : Ex -> Env -> Sig -> Prop) : Prop :=
 ∀ w0 g0 a w g, (∀ id b, g0.φ id = some b -> id < m0) -> St P e sig a w g -> Ext w0 g0 w g -> InLoop P c (SemQ P w0 g0 Q) a w
theorem SemQ.mono {Q Q' : Ex -> Env -> Sig -> Prop} (hq : ∀ x e s, Q x e s -> Q' x e s) {y : Exit} {a : Act} (h : SemQ P w0 g0 Q y a w) : SemQ P w0 g0 Q' y a w :=
 let ⟨x, e', s', g', h1, h2⟩ := h; ⟨x, e', s', g', hq _ _ _ h1, h2⟩
theorem InLoop.mono {c : Code} {Q Q' : Exit -> Act -> World -> Prop} (hq : ∀ y a w, Q y a w -> Q' y a w) (h : InLoop P c Q a w) : InLoop P c Q' a w :=
 fun b k cs => let ⟨x, a', w', h1, h2⟩ := h b k cs; ⟨x, a', w', hq _ _ _ h1, h2⟩
theorem Sem.mono {c : Code} {Q Q' : Ex -> Env -> Sig -> Prop} (h : Sem P m0 c e sig Q) (hq : ∀ x e s, Q x e s -> Q' x e s) : Sem P m0 c e sig Q' :=
 fun w0 g0 a w g hd hS hx => wp_mono (h w0 g0 a w g hd hS hx) (fun _ _ _ h => h.mono hq)
theorem SemL.mono {c : Code} {Q Q' : Ex -> Env -> Sig -> Prop} (h : SemL P m0 c e sig Q) (hq : ∀ x e s, Q x e s -> Q' x e s) : SemL P m0 c e sig Q' :=
 fun w0 g0 a w g hd hS hx => (h w0 g0 a w g hd hS hx).mono (fun _ _ _ h => h.mono hq)
theorem SemL.pre {c : Code} {Q : Ex -> Env -> Sig -> Prop} (hm : m0 <= k) (he : WkE k e e') (hs : WkS k sig sig') (h : SemL P m0 c e' sig' Q) : SemL P m0 c e sig Q :=
 fun w0 g0 a w g hd hS hx => h w0 g0 a w (g.cut k) hd (hS.cut he hs) (hx.cut hd hm)
theorem SemQ.post {Q Q' : Ex -> Env -> Sig -> Prop} (hd : ∀ id b, g0.φ id = some b -> id < m0) (hq : ∀ x e s, Q x e s -> ∃ k e' s', m0 <= k /\ WkE k e e' /\ WkS k s s' /\ Q' x e' s') {y : Exit} {a : Act} (h : SemQ P w0 g0 Q y a w) : SemQ P w0 g0 Q' y a w := by
 obtain ⟨x, e1, s1, g1, h1, h2, h3, h4⟩ := h
 obtain ⟨k, e2, s2, k0, k1, k2, k3⟩ := hq _ _ _ h1
 exact ⟨x, e2, s2, g1.cut k, k3, h2, h3.cut k1 k2, h4.cut hd k0⟩
theorem SemL.round {c : Code} {Q : Ex -> Env -> Sig -> Prop} (h : Sem P m0 c e sig fun x e1 s1 => match x with
  | .normal => SemL P m0 c e1 s1 Q
  | x => Q x e1 s1) : SemL P m0 c e sig Q := by
 intro w0 g0 a w g hd hS hx b k cs
 obtain ⟨y, a1, w1, ⟨x, e1, s1, g1, hq, rfl, hS1, hx1⟩, harr⟩ := h w0 g0 a w g hd hS hx b (.inLoop c :: k) cs
 cases x with
 | normal =>
  obtain ⟨y2, a2, w2, hq2, harr2⟩ := hq w0 g0 a1 w1 g1 hd hS1 hx1 b k cs
  exact ⟨y2, a2, w2, hq2, .of_steps (Steps.trans harr (.one step_inLoop)) harr2⟩
 | exit id => exact ⟨_, a1, w1, ⟨.exit id, e1, s1, g1, hq, rfl, hS1, hx1⟩, .pass (x := .inLoop c) rfl (fun _ _ => .inl (by simp [Ex.to])) harr⟩
 | goto l => exact ⟨_, a1, w1, ⟨.goto l, e1, s1, g1, hq, rfl, hS1, hx1⟩, .pass (x := .inLoop c) rfl (fun _ _ => .inl (by simp [Ex.to])) harr⟩
 | ret => exact ⟨_, a1, w1, ⟨.ret, e1, s1, g1, hq, rfl, hS1, hx1⟩, .pass (x := .inLoop c) rfl (fun _ _ => .inl (by simp [Ex.to])) harr⟩
def LoopOk (P : Program) (spec : Spec) (m0 n : Nat) (a : Code) : Prop :=
 ∀ (R : Type) (key : Nat) (E : SEnv) (sig : Sig) (K : Ex -> SEnv -> Sig -> Option R) (r : R), keyOf a = some key -> spec.loop R key E sig K = some r →
  SemL P m0 a (E.env n) sig fun x e' s' => ∃ E', e' = SEnv.env n E' /\ K x E' s' = some r
def SemC (P : Program) (m0 : Nat) (body c : Code) (e : Env) (sig : Sig) (Q : Ex -> Env -> Sig -> Prop) : Prop :=
 ∀ w0 g0 a w g, (∀ id b, g0.φ id = some b -> id < m0) -> St P e sig a w g -> Ext w0 g0 w g -> InScope P body (SemQ P w0 g0 Q) c a w
theorem InScope.mono {body c : Code} {Q Q' : Exit -> Act -> World -> Prop} (hq : ∀ y a w, Q y a w -> Q' y a w) (h : InScope P body Q c a w) : InScope P body Q' c a w :=
 fun b k cs => let ⟨x, a', w', h1, h2⟩ := h b k cs; ⟨x, a', w', hq _ _ _ h1, h2⟩
theorem SemC.mono {body c : Code} {Q Q' : Ex -> Env -> Sig -> Prop} (h : SemC P m0 body c e sig Q) (hq : ∀ x e s, Q x e s -> Q' x e s) : SemC P m0 body c e sig Q' :=
 fun w0 g0 a w g hd hS hx => (h w0 g0 a w g hd hS hx).mono (fun _ _ _ h => h.mono hq)
theorem SemC.pre {body c : Code} {Q : Ex -> Env -> Sig -> Prop} (hm : m0 <= k) (he : WkE k e e') (hs : WkS k sig sig') (h : SemC P m0 body c e' sig' Q) : SemC P m0 body c e sig Q :=
 fun w0 g0 a w g hd hS hx => h w0 g0 a w (g.cut k) hd (hS.cut he hs) (hx.cut hd hm)
def JumpOk (P : Program) (spec : Spec) (m0 n : Nat) (body : Code) : Prop :=
 ∀ (l : Nat) (rest : Code), findLabel body l = some rest -> ∀ (R : Type) (E : SEnv) (sig : Sig) (K : Ex -> SEnv -> Sig -> Option R) (r : R), spec.loop R (jumpKey l) E sig K = some r →
  SemC P m0 body rest (E.env n) sig fun x e' s' => ∃ E', e' = SEnv.env n E' /\ K x E' s' = some r
theorem no_scope {spec : Spec} {n : Nat} {c : Code} (h : scopesOf c = []) : ∀ a ∈ scopesOf c, JumpOk P spec m0 n a := fun a ha => by rw [h] at ha; simp at ha
theorem find_mem : ∀ {c : Code} {l : Nat} {rest : Code}, findLabel c l = some rest -> l ∈ labelsOf c
 | .seq x y, l, rest, h => by
  simp only [findLabel] at h
  split at h
  ·rename_i r hr
   simp only [labelsOf, List.mem_append]
   exact .inl (find_mem hr)
  ·simp only [labelsOf, List.mem_append]
   exact .inr (find_mem h)
 | .label l', l, rest, h => by
  simp only [findLabel] at h
  split at h
  ·rename_i hl
   have : l' = l := by simpa using hl
   simp [labelsOf, this]
  ·cases h
 | .region .., l, rest, h => by simp [findLabel] at h
 | .skip, l, rest, h => by simp [findLabel] at h
 | .ret, l, rest, h => by simp [findLabel] at h
 | .exit _, l, rest, h => by simp [findLabel] at h
 | .goto _, l, rest, h => by simp [findLabel] at h
 | .cond .., l, rest, h => by simp [findLabel] at h
 | .block .., l, rest, h => by simp [findLabel] at h
 | .loop _, l, rest, h => by simp [findLabel] at h
 | .scope _, l, rest, h => by simp [findLabel] at h
 | .rangeFunc .., l, rest, h => by simp [findLabel] at h
 | .refuse .., l, rest, h => by simp [findLabel] at h
theorem mX_sound {spec : Spec} {n : Nat} {R : Type} {r : R} (hC : CallsOk P spec) : ∀ {c : Code}, CodeOk P c -> (∀ a ∈ loopsOf c, LoopOk P spec m0 n a) -> (∀ a ∈ scopesOf c, JumpOk P spec m0 n a) -> ∀ {E : SEnv} {sig : Sig} {K : Ex -> SEnv -> Sig -> Option R}, mX P spec n c E sig K = some r →
  Sem P m0 c (E.env n) sig fun x e' s' => ∃ E', e' = SEnv.env n E' /\ K x E' s' = some r := by
 have hcall := callF_sound hC
 have reg : ∀ {id : Nat} {ops : Array Oper} {draw : Bool} {E : SEnv} {sig : Sig} {K : SEnv -> Sig -> Option R}, CodeOk P (.region id ops draw) -> regionX P spec n ops draw E sig K = some r →
   Sem P m0 (.region id ops draw) (E.env n) sig fun x e' s' => x = .normal /\ ∃ E', e' = SEnv.env n E' /\ K E' s' = some r := by
  intro id ops draw E sig K hok h w0 g0 a w g hd hS hx
  obtain ⟨e1, s1, E1, h1, h2, h3⟩ := regionX_ev hC h
  have hev : evCode P spec.callF 1 (.region id ops draw) (E.env n) sig = some (.normal, e1, s1) := by simp only [evCode, h1]; rfl
  refine wp_mono ((code_sound hcall 1).1 _ _ _ _ _ _ hev hok a w g hS) ?_
  rintro y a1 w1 ⟨rfl, g1, hS1, hx1⟩
  exact ⟨.normal, _, _, g1, ⟨rfl, E1, rfl, h3⟩, rfl, hS1.known h2, hx.trans hx1⟩
 have leaf : ∀ {c : Code} {x : Ex} {E : SEnv} {sig : Sig} {K : Ex -> SEnv -> Sig -> Option R}, CodeOk P c -> (∀ e s, evCode P spec.callF 1 c e s = some (x, e, s)) -> K x E sig = some r →
   Sem P m0 c (E.env n) sig fun x e' s' => ∃ E', e' = SEnv.env n E' /\ K x E' s' = some r := by
  intro c x E sig K hok hev hK w0 g0 a w g hd hS hx
  refine wp_mono ((code_sound hcall 1).1 _ _ _ _ _ _ (hev _ _) hok a w g hS) ?_
  rintro y a1 w1 ⟨rfl, g1, hS1, hx1⟩
  exact ⟨x, _, _, g1, ⟨E, rfl, hK⟩, rfl, hS1, hx.trans hx1⟩
 intro c
 induction c with
 | skip => intro hok _ _ E sig K h; exact leaf hok (fun e s => rfl) h
 | label l => intro hok _ _ E sig K h; exact leaf hok (fun e s => rfl) h
 | ret => intro hok _ _ E sig K h; exact leaf hok (fun e s => rfl) h
 | exit id => intro hok _ _ E sig K h; exact leaf hok (fun e s => rfl) h
 | goto l => intro hok _ _ E sig K h; exact leaf hok (fun e s => rfl) h
 | region id ops draw =>
  intro hok _ _ E sig K h
  refine (reg hok h).mono ?_
  rintro x e1 s1 ⟨rfl, h1⟩
  exact h1
 | seq x y ihx ihy =>
  intro hok hL hJ E sig K h
  cases hok with
  | seq hx hy =>
  simp only [mX] at h
  intro w0 g0 a w g hd hS hx0
  refine wp_seq (wp_mono (ihx hx (fun a ha => hL a (by simp [loopsOf, ha])) (fun a ha => hJ a (by simp [scopesOf, ha])) h w0 g0 a w g hd hS hx0) ?_)
  rintro y1 a1 w1 ⟨x1, e1, s1, g1, ⟨E1, rfl, hK⟩, rfl, hS1, hx1⟩
  cases x1 with
  | normal => exact ihy hy (fun a ha => hL a (by simp [loopsOf, ha])) (fun a ha => hJ a (by simp [scopesOf, ha])) hK w0 g0 a1 w1 g1 hd hS1 hx1
  | exit id => exact ⟨.exit id, _, _, g1, ⟨E1, rfl, hK⟩, rfl, hS1, hx1⟩
  | goto l => exact ⟨.goto l, _, _, g1, ⟨E1, rfl, hK⟩, rfl, hS1, hx1⟩
  | ret => exact ⟨.ret, _, _, g1, ⟨E1, rfl, hK⟩, rfl, hS1, hx1⟩
 | cond c x y ihx ihy =>
  intro hok hL hJ E sig K h
  cases hok with
  | cond _ hx hy =>
  have go : ∀ {q : Bool}, rd (E.env n) c = some (.t (.sc (.bool q))) -> (bif q then mX P spec n x E sig K else mX P spec n y E sig K) = some r -> Sem P m0 (.cond c x y) (E.env n) sig fun x e' s' => ∃ E', e' = SEnv.env n E' /\ K x E' s' = some r := by
   intro q hq h w0 g0 a w g hd hS hx0
   cases q with
   | true => exact wp_cond_true (rd_bool hS.E hq) (ihx hx (fun a ha => hL a (by simp [loopsOf, ha])) (fun a ha => hJ a (by simp [scopesOf, ha])) h w0 g0 a w g hd hS hx0)
   | false => exact wp_cond_false (rd_bool hS.E hq) (ihy hy (fun a ha => hL a (by simp [loopsOf, ha])) (fun a ha => hJ a (by simp [scopesOf, ha])) h w0 g0 a w g hd hS hx0)
  simp only [mX] at h
  split at h
  ·rename_i d
   split at h
   ·rename_i q hq
    split at h
    ·rename_i hlt
     refine go ?_ h
     cases hl : look E d with
     | none => simp [hl] at hq
     | some v =>
      simp [hl] at hq
      simp only [rd, rdF, SEnv.env_at hlt, SEnv.at_of hl, hq]
    ·cases h
   ·cases h
  ·exact go rfl h
  ·cases h
 | block id x ih =>
  intro hok hL hJ E sig K h
  cases hok with
  | block _ hx =>
  simp only [mX] at h
  intro w0 g0 a w g hd hS hx0
  refine wp_block (wp_mono (ih hx (fun a ha => hL a (by simpa [loopsOf] using ha)) (fun a ha => hJ a (by simpa [scopesOf] using ha)) h w0 g0 a w g hd hS hx0) ?_)
  rintro y1 a1 w1 ⟨x1, e1, s1, g1, ⟨E1, rfl, hK⟩, rfl, hS1, hx1⟩
  cases x1 with
  | exit j =>
   simp only at hK
   split at hK
   ·rename_i hj
    simp only [Ex.to, Exit.inBlock, hj, if_true]
    exact ⟨.normal, _, _, g1, ⟨E1, rfl, hK⟩, rfl, hS1, hx1⟩
   ·rename_i hj
    simp only [Ex.to, Exit.inBlock, hj, if_false]
    exact ⟨.exit j, _, _, g1, ⟨E1, rfl, hK⟩, rfl, hS1, hx1⟩
  | normal => exact ⟨.normal, _, _, g1, ⟨E1, rfl, hK⟩, rfl, hS1, hx1⟩
  | goto l => exact ⟨.goto l, _, _, g1, ⟨E1, rfl, hK⟩, rfl, hS1, hx1⟩
  | ret => exact ⟨.ret, _, _, g1, ⟨E1, rfl, hK⟩, rfl, hS1, hx1⟩
 | loop x ih =>
  intro hok hL hJ E sig K h
  simp only [mX] at h
  split at h
  ·rename_i key hkey
   intro w0 g0 a w g hd hS hx0
   exact wp_loop_in (hL x (by simp [loopsOf]) R key E sig K r hkey h w0 g0 a w g hd hS hx0)
  ·cases h
 | scope x ih =>
  intro hok hL hJ E sig K h
  cases hok with
  | scope hx =>
  simp only [mX] at h
  intro w0 g0 a w g hd hS hx0
  refine wp_scope_in (inScope_of (ih hx (fun a ha => hL a (by simpa [loopsOf] using ha)) (fun a ha => hJ a (by simp [scopesOf, ha])) h w0 g0 a w g hd hS hx0) ?_)
  rintro y1 a1 w1 ⟨x1, e1, s1, g1, ⟨E1, rfl, hK⟩, rfl, hS1, hx1⟩
  cases x1 with
  | goto l =>
   simp only at hK
   simp only [Ex.to]
   split at hK
   ·rename_i rest hf
    simp only [hf]
    exact hJ x (by simp [scopesOf]) l rest hf R E1 s1 K r hK w0 g0 a1 w1 g1 hd hS1 hx1
   ·rename_i hf
    simp only [hf]
    exact ⟨.goto l, _, _, g1, ⟨E1, rfl, hK⟩, rfl, hS1, hx1⟩
  | normal => exact ⟨.normal, _, _, g1, ⟨E1, rfl, hK⟩, rfl, hS1, hx1⟩
  | exit id => exact ⟨.exit id, _, _, g1, ⟨E1, rfl, hK⟩, rfl, hS1, hx1⟩
  | ret => exact ⟨.ret, _, _, g1, ⟨E1, rfl, hK⟩, rfl, hS1, hx1⟩
 | _ => intro hok hL hJ E sig K h; simp [mX] at h
end
end Go.Eng
