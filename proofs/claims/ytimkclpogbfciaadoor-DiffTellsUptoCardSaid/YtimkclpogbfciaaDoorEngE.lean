/- The engine, seventeenth part: a region in its text's order; code. -/
import Derived.Test.YtimkclpogbfciaaDoorEngR
import Derived.ScopeJumps
set_option linter.unusedVariables false
set_option linter.unusedSimpArgs false
namespace Go.Eng
open Go.RowKit
section
variable {P : Program} {w w' : World} {g g' : Gh} {e e' : Env} {a a' : Act} {sig sig' : Sig} {ops : List Oper} {base : Nat} {dn : Nat -> Prop} {r r' : R}
structure St (P : Program) (e : Env) (sig : Sig) (a : Act) (w : World) (g : Gh) : Prop where
 E : SimE w g e a
 B : SimB w g sig
 W : WF P w g
 noArg : ∀ b k, g.O b ≠ some (.arg k)
 noRes : ∀ b, g.O b ≠ some .res
 defers : a.defers = []
def Ex.to : Ex -> Exit
 | .normal => .normal
 | .exit id => .exit id
 | .goto l => .goto l
 | .ret => .ret
def After (P : Program) (w : World) (g : Gh) (x : Ex) (e : Env) (sig : Sig) : Exit -> Act -> World -> Prop :=
 fun y a' w' => y = x.to /\ ∃ g', St P e sig a' w' g' /\ Ext w g w' g'
theorem Ready.text {i : Nat} : Ready ops (fun k => k < i) i :=
 ⟨Nat.lt_irrefl i, fun k o ok d _ _ h _ _ => h, fun o _ _ k ok h _ _ => h⟩
theorem also_lt {i : Nat} : also (fun k => k < i) i = fun k => k < i + 1 := by
 funext k
 simp only [also, eq_iff_iff]
 omega
theorem steps_sound {call : CallF} (hcall : CallFSound P call) {Q : Exit -> Act -> World -> Prop} : ∀ (n i : Nat) {r r' : R} {a : Act} {w : World} {g : Gh}, steps P call ops base (List.range' i n) r = some r' -> SimR P ops base (fun k => k < i) r a w g →
  (∀ a' w' g', SimR P ops base (fun k => k < i + n) r' a' w' g' -> Ext w g w' g' -> Q .normal a' w') -> wpOps P ops.toArray Q (List.range' i n) a w
 | 0, i, r, r', a, w, g, h, hS, hQ => by
  simp only [List.range'_zero, steps, Option.some.injEq] at h
  subst h
  simp only [List.range'_zero, wpOps]
  exact hQ _ _ g (by simpa using hS) (Ext.refl _ _)
 | n + 1, i, r, r', a, w, g, h, hS, hQ => by
  simp only [List.range'_succ, steps] at h
  split at h
  ·rename_i r1 h1
   simp only [List.range'_succ]
   rw [wpOps_cons]
   refine step_sound hcall hS Ready.text h1 Q _ (fun a' w' g' hS' hx => ?_)
   rw [also_lt] at hS'
   refine steps_sound hcall n (i + 1) h hS' (fun a2 w2 g2 hS2 hx2 => hQ a2 w2 g2 ?_ (hx.trans hx2))
   rw [show i + (n + 1) = i + 1 + n by omega]; exact hS2
  ·cases h
theorem getElem?_append_replicate {sig : Sig} {n k : Nat} {x : Option (List V)} (h : sig[k]? = some x) : (sig ++ List.replicate n none)[k]? = some x := by
 rw [List.getElem?_append_left (List.getElem?_eq_some_iff.1 h).1]; exact h
theorem boxNo_le {i n : Nat} {o : Oper} (hi : ops[i]? = some o) (ha : isAlloc o = true) : boxNo ops i < boxNo ops ops.length := boxNo_lt (List.getElem?_eq_some_iff.1 hi).1 hi ha
theorem St.start (h : St P e sig a w g) (ops : List Oper) : SimR P ops sig.length (fun _ => False) { env := e, sig := sig ++ List.replicate (boxNo ops ops.length) none, tl := List.replicate ops.length none, ll := List.replicate ops.length none } a w g := by
 have hdom : ∀ id b, g.φ id = some b -> id < sig.length := by
  intro id b hb
  obtain ⟨cs, c, el, h1, _⟩ := h.B.box id b hb
  exact (List.getElem?_eq_some_iff.1 h1).1
 refine ⟨h.E, ⟨fun id b hb => ?_, h.B.inj, h.B.apart⟩, h.W, ⟨fun _ _ _ _ h => h.elim, fun _ _ _ _ _ _ _ h => h.elim⟩, h.noArg, h.noRes, h.defers, by simp, ?_, fun _ _ _ _ _ h => h.elim, ?_⟩
 ·obtain ⟨cs, c, el, h1, h2⟩ := h.B.box id b hb
  exact ⟨cs, c, el, getElem?_append_replicate h1, h2⟩
 ·intro i o hi ha _
  have := boxNo_le (n := 0) hi ha
  refine ⟨by simp; exact this, ?_⟩
  cases hb : g.φ (sig.length + boxNo ops i) with
  | none => rfl
  | some b => have := hdom _ b hb; omega
 ·intro i _ ids h
  simp only [List.getElem?_replicate] at h
  split at h <;> simp at h
theorem SimR.stop (h : SimR P ops base dn r a w g) : St P r.env r.sig a w g := ⟨h.E, h.B, h.W, h.noArg, h.noRes, h.defers⟩
def DrawOk (P : Program) (ops : Array Oper) : Prop :=
 ∀ (call : CallF), CallFSound P call -> ∀ (id : Nat) (e : Env) (sig : Sig) (e' : Env) (sig' : Sig) (a : Act) (w : World) (g : Gh), evRegion P call ops true e sig = some (e', sig') -> St P e sig a w g →
  (Code.region id ops true).wp P (After P w g .normal e' sig') a w
inductive CodeOk (P : Program) : Code -> Prop
 | text (id ops) : CodeOk P (.region id ops false)
 | draw (id ops) : DrawOk P ops -> CodeOk P (.region id ops true)
 | skip : CodeOk P .skip
 | label (l) : CodeOk P (.label l)
 | ret : CodeOk P .ret
 | exit (id) : CodeOk P (.exit id)
 | goto (l) : CodeOk P (.goto l)
 | seq {x y} : CodeOk P x -> CodeOk P y -> CodeOk P (.seq x y)
 | cond (c) {x y} : CodeOk P x -> CodeOk P y -> CodeOk P (.cond c x y)
 | block (id) {x} : CodeOk P x -> CodeOk P (.block id x)
 | loop {x} : CodeOk P x -> CodeOk P (.loop x)
 | scope {x} : CodeOk P x -> CodeOk P (.scope x)
 | range (f ps x y) : CodeOk P (.rangeFunc f ps x y)
 | refuse (s) : CodeOk P (.refuse s)
theorem region_sound {call : CallF} (hcall : CallFSound P call) {ops : Array Oper} {id : Nat} (h : evRegion P call ops false e sig = some (e', sig')) (hS : St P e sig a w g) :
  (Code.region id ops false).wp P (After P w g .normal e' sig') a w := by
 unfold evRegion at h
 simp only at h
 split at h
 ·rename_i r hr
  simp only [Bool.false_and, Bool.false_eq_true, if_false, Option.some.injEq, Prod.mk.injEq] at h
  obtain ⟨rfl, rfl⟩ := h
  refine wp_region ?_
  have h0 : (fun _ => False : Nat -> Prop) = fun k => k < 0 := by funext k; simp
  have hS0 := hS.start (P := P) ops.toList
  rw [h0] at hS0
  rw [List.range_eq_range'] at hr ⊢
  have hlen : ops.toList.length = ops.size := by simp
  rw [hlen] at hS0
  have := steps_sound (Q := After P w g .normal r.env r.sig) hcall ops.size 0 hr hS0 (fun a' w' g' hS' hx => ⟨rfl, g', hS'.stop, hx⟩)
  simpa using this
 ·cases h
def InScope (P : Program) (body : Code) (Q : Exit -> Act -> World -> Prop) (c : Code) (a : Act) (w : World) : Prop :=
 ∀ (b : Frame) (k : List Item) (cs : List Frame), ∃ x a' w', Q x a' w' /\ Arrives P (lone (b.at a (.code c :: .inScope body :: k)) cs w) b k cs x a' w'
theorem wp_scope_in {c : Code} {Q : Exit -> Act -> World -> Prop} (h : InScope P c Q c a w) : (Code.scope c).wp P Q a w := by
 intro b k cs
 obtain ⟨x, a1, w1, hq, harr⟩ := h b k cs
 exact ⟨x, a1, w1, hq, .of_steps (.one step_scope) harr⟩
theorem inScope_of {body c : Code} {Q : Exit -> Act -> World -> Prop} {R : Exit -> Act -> World -> Prop} (h : c.wp P R a w)
  (hR : ∀ x a1 w1, R x a1 w1 -> match x with | .goto l => (match findLabel body l with | some rest => InScope P body Q rest a1 w1 | none => Q (.goto l) a1 w1) | x => Q x a1 w1) : InScope P body Q c a w := by
 intro b k cs
 obtain ⟨x, a1, w1, hq, harr⟩ := h b (.inScope body :: k) cs
 have hx := hR x a1 w1 hq
 cases x with
 | normal => exact ⟨.normal, a1, w1, hx, Steps.trans harr (.one step_inScope)⟩
 | exit id => exact ⟨.exit id, a1, w1, hx, fun k' hk => harr k' (by simp [exitTo, hk])⟩
 | goto l =>
  simp only at hx
  split at hx
  ·rename_i rest hf
   obtain ⟨x2, a2, w2, hq2, harr2⟩ := hx b k cs
   exact ⟨x2, a2, w2, hq2, .of_steps (harr _ (by simp [gotoIn, hf])) harr2⟩
  ·rename_i hf
   exact ⟨.goto l, a1, w1, hx, fun k' hk => harr k' (by simp [gotoIn, hf, hk])⟩
 | ret => exact ⟨_, a1, w1, hx, harr⟩
 | panic ch => exact ⟨_, a1, w1, hx, harr⟩
 | outgrown => exact ⟨_, a1, w1, hx, harr⟩
theorem CodeOk.find : ∀ {c : Code}, CodeOk P c -> ∀ {l : Nat} {rest : Code}, findLabel c l = some rest -> CodeOk P rest
 | _, .seq hx hy, l, rest, h => by
  simp only [findLabel] at h
  split at h
  ·rename_i r hr
   simp only [Option.some.injEq] at h
   subst h
   exact .seq (CodeOk.find hx hr) hy
  ·exact CodeOk.find hy h
 | _, .label l', l, rest, h => by
  simp only [findLabel] at h
  split at h
  ·simp only [Option.some.injEq] at h; subst h; exact .skip
  ·cases h
 | _, .text .., l, rest, h => by simp [findLabel] at h
 | _, .draw .., l, rest, h => by simp [findLabel] at h
 | _, .skip, l, rest, h => by simp [findLabel] at h
 | _, .ret, l, rest, h => by simp [findLabel] at h
 | _, .exit _, l, rest, h => by simp [findLabel] at h
 | _, .goto _, l, rest, h => by simp [findLabel] at h
 | _, .cond .., l, rest, h => by simp [findLabel] at h
 | _, .block .., l, rest, h => by simp [findLabel] at h
 | _, .loop _, l, rest, h => by simp [findLabel] at h
 | _, .scope _, l, rest, h => by simp [findLabel] at h
 | _, .range .., l, rest, h => by simp [findLabel] at h
 | _, .refuse .., l, rest, h => by simp [findLabel] at h
theorem After.later {x : Ex} {w1 : World} {g1 : Gh} (hx : Ext w g w1 g1) {y : Exit} {a' : Act} {w' : World} (h : After P w1 g1 x e sig y a' w') : After P w g x e sig y a' w' :=
 let ⟨h1, g', h2, h3⟩ := h; ⟨h1, g', h2, hx.trans h3⟩
def InLoop (P : Program) (body : Code) (Q : Exit -> Act -> World -> Prop) (a : Act) (w : World) : Prop :=
 ∀ (b : Frame) (k : List Item) (cs : List Frame), ∃ x a' w', Q x a' w' /\ Arrives P (lone (b.at a (.code body :: .inLoop body :: k)) cs w) b k cs x a' w'
theorem wp_loop_in {c : Code} {Q : Exit -> Act -> World -> Prop} (h : InLoop P c Q a w) : (Code.loop c).wp P Q a w := by
 intro b k cs
 obtain ⟨x, a1, w1, hq, harr⟩ := h b k cs
 exact ⟨x, a1, w1, hq, .of_steps (.one step_loop) harr⟩
set_option maxHeartbeats 1000000 in
theorem code_sound {call : CallF} (hcall : CallFSound P call) : ∀ (n : Nat),
  (∀ (c : Code) (e : Env) (sig : Sig) (x : Ex) (e' : Env) (sig' : Sig), evCode P call n c e sig = some (x, e', sig') -> CodeOk P c -> ∀ (a : Act) (w : World) (g : Gh), St P e sig a w g -> c.wp P (After P w g x e' sig') a w) ∧
  (∀ (body c : Code) (e : Env) (sig : Sig) (x : Ex) (e' : Env) (sig' : Sig), evCode.evScope P call n body c e sig = some (x, e', sig') -> CodeOk P body -> CodeOk P c -> ∀ (a : Act) (w : World) (g : Gh), St P e sig a w g -> InScope P body (After P w g x e' sig') c a w) ∧
  (∀ (body : Code) (e : Env) (sig : Sig) (x : Ex) (e' : Env) (sig' : Sig), evCode P call n (.loop body) e sig = some (x, e', sig') -> CodeOk P body -> ∀ (a : Act) (w : World) (g : Gh), St P e sig a w g -> InLoop P body (After P w g x e' sig') a w)
 | 0 => ⟨fun c e sig x e' sig' h => by simp [evCode] at h, fun body c e sig x e' sig' h => by simp [evCode.evScope] at h, fun body e sig x e' sig' h => by simp [evCode] at h⟩
 | n + 1 => by
  obtain ⟨ih1, ih2, ih3⟩ := code_sound hcall n
  have loop : ∀ (body : Code) (e : Env) (sig : Sig) (x : Ex) (e' : Env) (sig' : Sig), evCode P call (n + 1) (.loop body) e sig = some (x, e', sig') -> CodeOk P body -> ∀ (a : Act) (w : World) (g : Gh), St P e sig a w g -> InLoop P body (After P w g x e' sig') a w := by
   intro body e sig x e' sig' h hx a w g hS
   simp only [evCode] at h
   intro b k cs
   split at h
   ·rename_i e1 s1 h1
    obtain ⟨y, a1, w1, ⟨rfl, g1, hS1, hx1⟩, harr⟩ := ih1 _ _ _ _ _ _ h1 hx a w g hS b (.inLoop body :: k) cs
    obtain ⟨y2, a2, w2, hq2, harr2⟩ := ih3 _ _ _ _ _ _ h hx a1 w1 g1 hS1 b k cs
    exact ⟨y2, a2, w2, hq2.later hx1, .of_steps (Steps.trans harr (.one step_inLoop)) harr2⟩
   ·rename_i hne
    obtain ⟨y, a1, w1, ⟨rfl, h1⟩, harr⟩ := ih1 _ _ _ _ _ _ h hx a w g hS b (.inLoop body :: k) cs
    refine ⟨x.to, a1, w1, ⟨rfl, h1⟩, ?_⟩
    cases x with
    | normal => exact absurd h (hne _ _)
    | exit id => exact .pass (x := .inLoop body) rfl (fun _ _ => .inl (by simp [Ex.to])) harr
    | goto l => exact .pass (x := .inLoop body) rfl (fun _ _ => .inl (by simp [Ex.to])) harr
    | ret => exact .pass (x := .inLoop body) rfl (fun _ _ => .inl (by simp [Ex.to])) harr
  refine ⟨?_, ?_, loop⟩
  ·intro c e sig x e' sig' h hc a w g hS
   have here : ∀ y : Ex, St P e sig a w g -> After P w g y e sig y.to a w := fun y h => ⟨rfl, g, h, Ext.refl _ _⟩
   cases hc with
   | text id ops =>
    simp only [evCode] at h
    cases hr : evRegion P call ops false e sig with
    | none => simp [hr] at h
    | some q =>
     simp [hr] at h
     obtain ⟨rfl, rfl, rfl⟩ := h
     exact region_sound hcall hr hS
   | draw id ops hd =>
    simp only [evCode] at h
    cases hr : evRegion P call ops true e sig with
    | none => simp [hr] at h
    | some q =>
     simp [hr] at h
     obtain ⟨rfl, rfl, rfl⟩ := h
     exact hd call hcall id e sig _ _ a w g hr hS
   | skip =>
    simp only [evCode, Option.some.injEq, Prod.mk.injEq] at h
    obtain ⟨rfl, rfl, rfl⟩ := h
    exact wp_skip (here .normal hS)
   | label l =>
    simp only [evCode, Option.some.injEq, Prod.mk.injEq] at h
    obtain ⟨rfl, rfl, rfl⟩ := h
    exact wp_label (here .normal hS)
   | ret =>
    simp only [evCode, Option.some.injEq, Prod.mk.injEq] at h
    obtain ⟨rfl, rfl, rfl⟩ := h
    exact wp_ret (here .ret hS)
   | exit id =>
    simp only [evCode, Option.some.injEq, Prod.mk.injEq] at h
    obtain ⟨rfl, rfl, rfl⟩ := h
    exact wp_exit (here (.exit id) hS)
   | goto l =>
    simp only [evCode, Option.some.injEq, Prod.mk.injEq] at h
    obtain ⟨rfl, rfl, rfl⟩ := h
    exact wp_goto (here (.goto l) hS)
   | seq hx hy =>
    simp only [evCode] at h
    split at h
    ·rename_i e1 s1 h1
     refine wp_seq (wp_mono (ih1 _ _ _ _ _ _ h1 hx a w g hS) ?_)
     rintro y a1 w1 ⟨rfl, g1, hS1, hx1⟩
     exact wp_mono (ih1 _ _ _ _ _ _ h hy a1 w1 g1 hS1) (fun y a2 w2 h2 => h2.later hx1)
    ·rename_i hne
     refine wp_seq (wp_mono (ih1 _ _ _ _ _ _ h hx a w g hS) ?_)
     rintro y a1 w1 ⟨rfl, h1⟩
     cases x with
     | normal => exact absurd h (hne _ _)
     | exit id => exact ⟨rfl, h1⟩
     | goto l => exact ⟨rfl, h1⟩
     | ret => exact ⟨rfl, h1⟩
   | cond c hx hy =>
    simp only [evCode] at h
    split at h
    ·rename_i hb
     exact wp_cond_true (rd_bool hS.E hb) (ih1 _ _ _ _ _ _ h hx a w g hS)
    ·rename_i hb
     exact wp_cond_false (rd_bool hS.E hb) (ih1 _ _ _ _ _ _ h hy a w g hS)
    ·cases h
   | block id hx =>
    simp only [evCode] at h
    split at h
    ·rename_i k e1 s1 h1
     refine wp_block (wp_mono (ih1 _ _ _ _ _ _ h1 hx a w g hS) ?_)
     rintro y a1 w1 ⟨rfl, h2⟩
     split at h
     ·rename_i hk
      simp only [Option.some.injEq, Prod.mk.injEq] at h
      obtain ⟨rfl, rfl, rfl⟩ := h
      simp only [Ex.to, Exit.inBlock, hk, if_true]
      exact ⟨rfl, h2⟩
     ·rename_i hk
      simp only [Option.some.injEq, Prod.mk.injEq] at h
      obtain ⟨rfl, rfl, rfl⟩ := h
      simp only [Ex.to, Exit.inBlock, hk, if_false]
      exact ⟨rfl, h2⟩
    ·rename_i hne
     refine wp_block (wp_mono (ih1 _ _ _ _ _ _ h hx a w g hS) ?_)
     rintro y a1 w1 ⟨rfl, h1⟩
     cases x with
     | normal => exact ⟨rfl, h1⟩
     | exit id => exact absurd h (hne _ _ _)
     | goto l => exact ⟨rfl, h1⟩
     | ret => exact ⟨rfl, h1⟩
   | @loop body hx =>
    exact wp_loop_in (loop _ _ _ _ _ _ h hx a w g hS)
   | scope hx =>
    simp only [evCode] at h
    exact wp_scope_in (ih2 _ _ _ _ _ _ _ h hx hx a w g hS)
   | range f ps x y => simp [evCode] at h
   | refuse s => simp [evCode] at h
  ·intro body c e sig x e' sig' h hb hc a w g hS
   simp only [evCode.evScope] at h
   split at h
   ·rename_i l e1 s1 h1
    refine inScope_of (ih1 _ _ _ _ _ _ h1 hc a w g hS) ?_
    rintro y a1 w1 ⟨rfl, g1, hS1, hx1⟩
    simp only [Ex.to]
    split at h
    ·rename_i rest hf
     simp only [hf]
     intro b k cs
     obtain ⟨y2, a2, w2, hq2, harr2⟩ := ih2 _ _ _ _ _ _ _ h hb (hb.find hf) a1 w1 g1 hS1 b k cs
     exact ⟨y2, a2, w2, hq2.later hx1, harr2⟩
    ·rename_i hf
     simp only [Option.some.injEq, Prod.mk.injEq] at h
     obtain ⟨rfl, rfl, rfl⟩ := h
     simp only [hf]
     exact ⟨rfl, g1, hS1, hx1⟩
   ·rename_i hne
    refine inScope_of (ih1 _ _ _ _ _ _ h hc a w g hS) ?_
    rintro y a1 w1 ⟨rfl, h1⟩
    cases x with
    | normal => exact ⟨rfl, h1⟩
    | exit id => exact ⟨rfl, h1⟩
    | goto l => exact absurd h (hne _ _ _)
    | ret => exact ⟨rfl, h1⟩
end
end Go.Eng
