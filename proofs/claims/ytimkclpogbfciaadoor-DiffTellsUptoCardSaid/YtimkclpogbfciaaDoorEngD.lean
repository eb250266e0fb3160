/- The engine, fifteenth part: a call, out of the callee's own view. -/
import Derived.Test.YtimkclpogbfciaaDoorEngC
set_option linter.unusedVariables false
set_option linter.unusedSimpArgs false
namespace Go.Eng
open Go.RowKit
section
variable {P : Program} {w w' : World} {g g' : Gh} {e e' : Env} {a a' : Act} {sig sig' : Sig} {ops : List Oper} {base : Nat} {dn : Nat -> Prop} {r r' : R}
mutual
theorem RelV.ren {g2 : Gh} {ρ : Nat -> Option Nat} (hρ : ∀ id k b, ρ id = some k -> g.φ id = some b -> g2.φ k = some b) (hF : g2.F = g.F) (hn : ∀ b, g.O b ≠ some .nil) {l l' : Loc} (hO : ∀ b, g.O b = some l -> g2.O b = some l') :
  ∀ {v v' : V} {x : Value}, RelV w g l v x -> v.ren ρ = some v' -> RelV w g2 l' v' x
 | .undef, v', x, h, hr => by simp only [V.ren, Option.some.injEq] at hr; subst hr; simp only [RelV] at *; exact h
 | .any, v', x, h, hr => by simp only [V.ren, Option.some.injEq] at hr; subst hr; simp only [RelV]
 | .nil, v', x, h, hr => by simp only [V.ren, Option.some.injEq] at hr; subst hr; simp only [RelV] at *; exact h
 | .t y, v', x, h, hr => by simp only [V.ren, Option.some.injEq] at hr; subst hr; simp only [RelV] at *; rw [hF]; exact h
 | .own sz es, v', x, h, hr => by
  simp only [V.ren, Option.some.injEq] at hr; subst hr
  simp only [RelV] at *
  rcases h with h | ⟨b, o, cap, lim, h1, h2, h3, h4⟩
  ·exact .inl h
  ·refine .inr ⟨b, o, cap, lim, h1, h2, by rw [hF]; exact h3, ?_⟩
   rcases h4 with h4 | ⟨h4, h5⟩
   ·exact .inl h4
   ·exact .inr ⟨hO b h4, h5⟩
 | .ptr id off, v', x, h, hr => by
  simp only [V.ren] at hr
  cases hk : ρ id with
  | none => simp [hk] at hr
  | some k =>
   simp [hk] at hr; subst hr
   simp only [RelV] at *
   obtain ⟨b, h1, h2⟩ := h
   exact ⟨b, hρ id k b hk h1, h2⟩
 | .aptr id off st n q, v', x, h, hr => by
  simp only [V.ren] at hr
  cases hk : ρ id with
  | none => simp [hk] at hr
  | some k =>
   simp [hk] at hr; subst hr
   simp only [RelV] at *
   obtain ⟨b, h1, h2⟩ := h
   exact ⟨b, hρ id k b hk h1, h2⟩
 | .cptr cs, v', x, h, hr => by simp only [V.ren, Option.some.injEq] at hr; subst hr; simp only [RelV] at *; rw [hF]; exact h
 | .agg vs, v', x, h, hr => by
  simp only [V.ren] at hr
  cases hk : renL ρ vs with
  | none => simp [hk] at hr
  | some us =>
   simp [hk] at hr; subst hr
   simp only [RelV] at *
   obtain ⟨xs, h1, h2⟩ := h
   exact ⟨xs, h1, RelL.ren hρ hF hn h2 hk⟩
 | .tup vs, v', x, h, hr => by
  simp only [V.ren] at hr
  cases hk : renL ρ vs with
  | none => simp [hk] at hr
  | some us =>
   simp [hk] at hr; subst hr
   simp only [RelV] at *
   obtain ⟨xs, h1, h2⟩ := h
   exact ⟨xs, h1, RelL.ren hρ hF hn h2 hk⟩
 | .fn f vs, v', x, h, hr => by
  simp only [V.ren] at hr
  cases hk : renL ρ vs with
  | none => simp [hk] at hr
  | some us =>
   simp [hk] at hr; subst hr
   simp only [RelV] at *
   obtain ⟨xs, h1, h2⟩ := h
   exact ⟨xs, h1, RelL.ren hρ hF hn h2 hk⟩
theorem RelL.ren {g2 : Gh} {ρ : Nat -> Option Nat} (hρ : ∀ id k b, ρ id = some k -> g.φ id = some b -> g2.φ k = some b) (hF : g2.F = g.F) (hn : ∀ b, g.O b ≠ some .nil) :
  ∀ {vs us : List V} {xs : List Value}, RelL w g vs xs -> renL ρ vs = some us -> RelL w g2 us xs
 | [], us, [], h, hr => by simp only [renL, Option.some.injEq] at hr; subst hr; simp [RelL]
 | v :: vs, us, x :: xs, h, hr => by
  simp only [renL] at hr
  split at hr
  ·rename_i y ys h1 h2
   simp only [Option.some.injEq] at hr; subst hr
   simp only [RelL] at *
   exact ⟨RelV.ren hρ hF hn (fun b hb => absurd hb (hn b)) h.1 h1, RelL.ren hρ hF hn h.2 h2⟩
  ·simp at hr
 | [], _, _ :: _, h, _ => by simp [RelL] at h
 | _ :: _, _, [], h, _ => by simp [RelL] at h
end
theorem renL_get {ρ : Nat -> Option Nat} : ∀ {vs us : List V}, renL ρ vs = some us -> us.length = vs.length /\ ∀ (k : Nat) (u : V), us[k]? = some u -> ∃ v, vs[k]? = some v /\ v.ren ρ = some u
 | [], us, h => by simp only [renL, Option.some.injEq] at h; subst h; simp
 | v :: vs, us, h => by
  simp only [renL] at h
  split at h
  ·rename_i y ys h1 h2
   simp only [Option.some.injEq] at h; subst h
   obtain ⟨k1, k2⟩ := renL_get h2
   refine ⟨by simp [k1], fun k u hu => ?_⟩
   cases k with
   | zero => simp at hu; subst hu; exact ⟨v, by simp, h1⟩
   | succ k => simpa using k2 k u (by simpa using hu)
  ·simp at h
theorem sigIn_get {ρ : Nat -> Option Nat} {sig : Sig} : ∀ {roots : List Nat} {s : Sig}, sigIn sig ρ roots = some s -> s.length = roots.length /\ ∀ (k id : Nat), roots[k]? = some id -> ∃ cs us, sig[id]? = some (some cs) /\ renL ρ cs = some us /\ s[k]? = some (some us)
 | [], s, h => by simp only [sigIn, Option.some.injEq] at h; subst h; simp
 | id :: roots, s, h => by
  simp only [sigIn] at h
  split at h
  ·rename_i cs s' h1 h2
   cases hr : renL ρ cs with
   | none => simp [hr] at h
   | some us =>
    simp [hr] at h; subst h
    obtain ⟨k1, k2⟩ := sigIn_get h2
    refine ⟨by simp [k1], fun k id' hk => ?_⟩
    cases k with
    | zero => simp at hk; subst hk; exact ⟨cs, us, h1, hr, by simp⟩
    | succ k => simpa using k2 k id' (by simpa using hk)
  ·simp at h
theorem nodupB_spec : ∀ {l : List Nat}, nodupB l = true -> l.Nodup
 | [], _ => List.nodup_nil
 | x :: xs, h => by
  simp only [nodupB, Bool.and_eq_true, Bool.not_eq_true', List.contains_eq_mem, decide_eq_false_iff_not] at h
  exact List.nodup_cons.2 ⟨h.1, nodupB_spec h.2⟩
theorem sigBack_get {ρ : Nat -> Option Nat} : ∀ {roots : List Nat} {sig s sig3 : Sig}, roots.Nodup -> sigBack ρ sig roots s = some sig3 -> sig3.length = sig.length /\ (∀ (id : Nat), id ∉ roots -> sig3[id]? = sig[id]?) ∧
  ∀ (k id : Nat), roots[k]? = some id -> id < sig.length -> ∃ cs us, s[k]? = some (some cs) /\ renL ρ cs = some us /\ sig3[id]? = some (some us)
 | [], sig, s, sig3, _, h => by simp only [sigBack, Option.some.injEq] at h; subst h; simp
 | id :: roots, sig, s, sig3, hnd, h => by
  obtain ⟨hn1, hn2⟩ := List.nodup_cons.1 hnd
  match s, h with
  | some cs :: s, h =>
   simp only [sigBack] at h
   split at h
   ·rename_i us hr
    obtain ⟨k1, k2, k3⟩ := sigBack_get hn2 h
    refine ⟨by simpa using k1, fun id' hid' => ?_, fun k id' hk hlt => ?_⟩
    ·simp only [List.mem_cons, not_or] at hid'
     rw [k2 id' hid'.2, List.getElem?_set_ne (fun h => hid'.1 h.symm)]
    ·cases k with
     | zero =>
      simp at hk; subst hk
      exact ⟨cs, us, by simp, hr, by rw [k2 id hn1]; simp [hlt]⟩
     | succ k => simpa using k3 k id' (by simpa using hk) (by simpa using hlt)
   ·simp at h
  | none :: s, h => simp [sigBack] at h
  | [], h => simp [sigBack] at h
theorem mem_idsL {id : Nat} : ∀ {vs : List V}, id ∈ idsL vs -> ∃ (k : Nat) (v : V), vs[k]? = some v /\ id ∈ v.ids
 | [], h => by simp [idsL] at h
 | v :: vs, h => by
  simp only [idsL, List.mem_append] at h
  rcases h with h | h
  ·exact ⟨0, v, by simp, h⟩
  ·obtain ⟨k, u, h1, h2⟩ := mem_idsL h
   exact ⟨k + 1, u, by simpa using h1, h2⟩
mutual
theorem RelV.mapped {l : Loc} {id : Nat} : ∀ {v : V} {x : Value}, RelV w g l v x -> id ∈ v.ids -> ∃ b, g.φ id = some b
 | .undef, x, _, h => by simp [V.ids] at h
 | .any, x, _, h => by simp [V.ids] at h
 | .nil, x, _, h => by simp [V.ids] at h
 | .t _, x, _, h => by simp [V.ids] at h
 | .own .., x, _, h => by simp [V.ids] at h
 | .cptr .., x, _, h => by simp [V.ids] at h
 | .aptr id' off st n k, x, hr, h => by
  simp only [V.ids, List.mem_singleton] at h
  subst h
  simp only [RelV] at hr
  obtain ⟨b, h1, _⟩ := hr
  exact ⟨b, h1⟩
 | .ptr id' off, x, hr, h => by
  simp only [V.ids, List.mem_singleton] at h
  subst h
  simp only [RelV] at hr
  obtain ⟨b, h1, _⟩ := hr
  exact ⟨b, h1⟩
 | .agg vs, x, hr, h => by
  simp only [V.ids] at h
  simp only [RelV] at hr
  obtain ⟨xs, _, h2⟩ := hr
  exact RelL.mapped h2 h
 | .tup vs, x, hr, h => by
  simp only [V.ids] at h
  simp only [RelV] at hr
  obtain ⟨xs, _, h2⟩ := hr
  exact RelL.mapped h2 h
 | .fn f vs, x, hr, h => by
  simp only [V.ids] at h
  simp only [RelV] at hr
  obtain ⟨xs, _, h2⟩ := hr
  exact RelL.mapped h2 h
theorem RelL.mapped {id : Nat} : ∀ {vs : List V} {xs : List Value}, RelL w g vs xs -> id ∈ idsL vs -> ∃ b, g.φ id = some b
 | [], _, _, h => by simp [idsL] at h
 | v :: vs, x :: xs, hr, h => by
  simp only [idsL, List.mem_append] at h
  simp only [RelL] at hr
  rcases h with h | h
  ·exact RelV.mapped hr.1 h
  ·exact RelL.mapped hr.2 h
 | _ :: _, [], hr, _ => by simp [RelL] at hr
end
theorem mem_dedup {id : Nat} : ∀ {l : List Nat}, id ∈ dedup l -> id ∈ l
 | [], h => by simp [dedup] at h
 | x :: xs, h => by
  simp only [dedup] at h
  split at h
  ·exact List.mem_cons_of_mem _ (mem_dedup h)
  ·rcases List.mem_cons.1 h with h | h
   ·simp [h]
   ·exact List.mem_cons_of_mem _ (mem_dedup h)
theorem idsOf_mapped (hB : SimB w g sig) {id k b : Nat} (hk : g.φ k = some b) (h : id ∈ idsOf sig k) : ∃ b, g.φ id = some b := by
 obtain ⟨cs, cc, el, h1, h2, h3, h4⟩ := hB.box k b hk
 simp only [idsOf, h1] at h
 obtain ⟨j, v, hj, hv⟩ := mem_idsL h
 have hlt := (List.getElem?_eq_some_iff.1 hj).1
 have : ∃ y, cc[j]? = some y := ⟨cc[j]'(by omega), Array.getElem?_eq_getElem (by omega)⟩
 obtain ⟨y, hy⟩ := this
 exact RelV.mapped (h4 j v y hj hy).1 hv
theorem close_mapped (hB : SimB w g sig) : ∀ (n : Nat) (l : List Nat), (∀ id ∈ l, ∃ b, g.φ id = some b) -> ∀ id ∈ close sig n l, ∃ b, g.φ id = some b
 | 0, l, h => by simpa [close] using h
 | n + 1, l, h => by
  simp only [close]
  split
  ·exact h
  ·refine close_mapped hB n _ (fun id hid => ?_)
   have := mem_dedup hid
   rcases List.mem_append.1 this with h1 | h1
   ·exact h id h1
   ·obtain ⟨k, hk, hik⟩ := List.mem_flatMap.1 h1
    obtain ⟨b, hb⟩ := h k hk
    exact idsOf_mapped hB hb hik
theorem idxOf_nodup {l : List Nat} (h : l.Nodup) {id k : Nat} (hk : l[k]? = some id) : l.idxOf? id = some k := by
 obtain ⟨h1, h2⟩ := List.getElem?_eq_some_iff.1 hk
 refine List.idxOf?_eq_some_iff.2 ⟨h1, h2, fun j hj => ?_⟩
 intro h3
 have := List.pairwise_iff_getElem.1 h j k (by omega) h1 hj
 exact this (by rw [h2, h3])
def CallSound (P : Program) (f : FuncId) (vs : List V) (sig : Sig) (res : V) (sig' : Sig) : Prop :=
 ∀ (w : World) (g : Gh) (args : Array Value), args.size = vs.length -> (∀ (i : Nat) (v : V) (x : Value), vs[i]? = some v -> args[i]? = some x -> RelV w g (.slot i) v x) -> SimB w g sig -> WF P w g →
  (∀ b l, g.O b = some l -> (∃ s, s < vs.length /\ l = .slot s) \/ ∃ id off, l = .box id off) -> (∀ id b, g.φ id = some b -> id < sig.length) →
  Calls P f args w (fun e w' => ∃ x g', e = .returned x /\ RelV w' g' .res res x /\ SimB w' g' sig' /\ WF P w' g' /\ Ext w g w' g' /\ ∀ b l, g'.O b = some l -> l = .res \/ ∃ id off, l = .box id off)
def CallFSound (P : Program) (call : CallF) : Prop := ∀ f vs sig res sig', call f vs sig = some (res, sig') -> CallSound P f vs sig res sig' /\ ∃ fn, P.funcs[f]? = some fn /\ (fn.name == "runtime.NumGoroutine") = false /\ fn.body.isSome = true
set_option maxHeartbeats 1000000 in
theorem step_call (hS : SimR P ops base dn r a w g) {i : Nat} (hR : Ready ops dn i) {o : Oper} (hi : ops[i]? = some o) (hw : wantedV ops r.env o = some true) {c : Call} (hop : o.op = .call c) {fx : Operand} (hcl : c.callee = .value fx) {f : FuncId} {caps : List V} (hf : rd r.env fx = some (.fn f caps)) {vs : List V}
  (hh : handAll P ops base i r.env r.sig r.tl c.args.toList = some (vs, e', sig')) {call : CallF} (hcall : CallFSound P call) {v : V} {sig3 : Sig} {roots : List Nat} (hev : evCall call f (vs ++ caps) sig' = some (v, sig3, roots)) :
  StepOk P ops base dn i { r with env := e'.put o.dst v, sig := sig3, tl := r.tl.set i (some roots) } a w g := by
 intro Q K hK
 have hisE : isE o = true := by simp [isE, hop, hcl]
 obtain ⟨g1, hH⟩ := handAll_sound (hR.below o hi hisE) c.args.toList 0 hS.E hS.B hS.W (fun b j _ => hS.noArg b j) hS.C (fun x hx => handOn_deps hR hi (by
  rw [hop]; simp only [Op.operands, Call.operands]
  simp only [Array.mem_append]
  exact .inr (by simpa using hx))) hh
 have hfr := (rd_rel hS.E hf .nil).1
 simp only [RelV] at hfr
 obtain ⟨capv, hfv, hcaps⟩ := hfr
 have hcaps1 : RelL w g1 caps capv.toList := by
  have hl : Later w g w g1 := ⟨by rw [hH.same.1]; exact Keeps.refl _ _, fun _ _ h => by rw [hH.same.2]; exact h⟩
  exact RelL.later hl hS.W.noNil hcaps
 unfold evCall at hev
 generalize hroots : close sig' 4 (dedup (idsL (vs ++ caps))) = rts at hev
 simp only at hev
 split at hev
 ·rename_i hchk
  simp only [Bool.and_eq_true] at hchk
  have hnd := nodupB_spec hchk.2
  split at hev
  ·rename_i vs1 sig1 hvs1 hsig1
   split at hev
   ·rename_i res sig2 hres
    split at hev
    ·rename_i v1 sig3' hv1 hsig3
     simp only [Option.some.injEq, Prod.mk.injEq] at hev
     obtain ⟨rfl, rfl, rfl⟩ := hev
     obtain ⟨hsound, fn, hfn, hng, hbody⟩ := hcall _ _ _ _ _ hres
     obtain ⟨hlen1, hget1⟩ := renL_get hvs1
     obtain ⟨hsl1, hsg1⟩ := sigIn_get hsig1
     obtain ⟨hsl3, hs3a, hs3b⟩ := sigBack_get hnd hsig3
     have hmapped : ∀ id ∈ rts, ∃ b, g1.φ id = some b := by
      intro id hid
      rw [<- hroots] at hid
      refine close_mapped hH.B 4 _ (fun id' hid' => ?_) id hid
      obtain ⟨j, u, hj, hu⟩ := mem_idsL (mem_dedup hid')
      by_cases hjl : j < vs.length
      ·rw [List.getElem?_append_left hjl] at hj
       have hj2 : j < (c.args.toList.map a.eval).length := by have := hH.len; omega
       exact RelV.mapped (hH.rel j u ((c.args.toList.map a.eval)[j]'hj2) hj (List.getElem?_eq_getElem hj2)) hu
      ·rw [List.getElem?_append_right (by omega)] at hj
       obtain ⟨y, _, hr⟩ := hcaps1.get hj
       exact RelV.mapped hr hu
     let there := fun id => rts.idxOf? id
     have hthere : ∀ id k, rts.idxOf? id = some k -> rts[k]? = some id := by
      intro id k h
      obtain ⟨h1, h2, _⟩ := List.idxOf?_eq_some_iff.1 h
      exact List.getElem?_eq_some_iff.2 ⟨h1, h2⟩
     have hthere2 : ∀ id k, rts[k]? = some id -> rts.idxOf? id = some k := fun id k h => idxOf_nodup hnd h
     let n := (vs ++ caps).length
     let gc : Gh := { F := g1.F, φ := fun k => (rts[k]?).bind g1.φ, O := fun b => match g1.O b with | some (.arg j) => some (.slot j) | some (.box id off) => (rts.idxOf? id).map (.box · off) | _ => none }
     let args : Array Value := c.args.map a.eval ++ capv
     have hargs : args.toList = c.args.toList.map a.eval ++ capv.toList := by simp [args]
     have hvl : vs.length = (c.args.toList.map a.eval).length := hH.len
     have hWc : WF P w gc := by
      refine ⟨hH.W.lt, fun k b hb => ?_, fun b hb => ?_, fun b l hb => ?_, hH.W.globs (Nat.le_refl _) (fun _ _ => rfl) (fun b hb => by simp only [gc, (hH.W.glob b hb).2.2.1]) (fun b hb k hk => by
       change (rts[k]?).bind g1.φ = some b at hk
       cases hk' : rts[k]? with
       | none => simp [hk'] at hk
       | some id => simp [hk'] at hk; exact (hH.W.glob b hb).2.2.2 id hk)⟩
      ·change (rts[k]?).bind g1.φ = some b at hb
       cases hk : rts[k]? with
       | none => simp [hk] at hb
       | some id => simp [hk] at hb; exact hH.W.ltφ id b hb
      ·simp only [gc] at hb
       split at hb
       ·cases hb
       ·rename_i id0 off0 _
        cases hx : rts.idxOf? id0 <;> simp [hx] at hb
       ·cases hb
      ·simp only [gc] at hb
       split at hb
       ·exact hH.W.own b _ (by assumption)
       ·exact hH.W.own b _ (by assumption)
       ·cases hb
     have hren : ∀ id k b, there id = some k -> g1.φ id = some b -> gc.φ k = some b := by
      intro id k b h1 h2
      show (rts[k]?).bind g1.φ = some b
      rw [hthere id k h1]; exact h2
     have hrelargs : ∀ (j : Nat) (u : V) (x : Value), vs1[j]? = some u -> args[j]? = some x -> RelV w gc (.slot j) u x := by
      intro j u x hu hx
      obtain ⟨u0, hu0, hru⟩ := hget1 j u hu
      have hx' : (c.args.toList.map a.eval ++ capv.toList)[j]? = some x := by rw [<- hargs]; simpa using hx
      by_cases hj : j < vs.length
      ·rw [List.getElem?_append_left hj] at hu0
       rw [List.getElem?_append_left (by omega)] at hx'
       have := hH.rel j u0 x hu0 hx'
       refine RelV.ren hren rfl hH.W.noNil (fun b hb => ?_) this hru
       simp only [Nat.zero_add] at hb
       simp only [gc, hb]
      ·rw [List.getElem?_append_right (by omega)] at hu0
       rw [List.getElem?_append_right (by omega)] at hx'
       obtain ⟨y, hy, hr⟩ := hcaps1.get hu0
       rw [hvl] at hy
       rw [hx'] at hy
       simp only [Option.some.injEq] at hy
       subst hy
       exact RelV.ofNil hWc.noNil (RelV.ren hren rfl hH.W.noNil (fun b hb => absurd hb (hH.W.noNil b)) hr hru)
     have hBc : SimB w gc sig1 := by
      refine ⟨fun k b hb => ?_, fun k k' b hb hb' => ?_, fun k b hb => ?_⟩
      ·change (rts[k]?).bind g1.φ = some b at hb
       cases hk : rts[k]? with
       | none => simp [hk] at hb
       | some id =>
        simp [hk] at hb
        obtain ⟨cs, us, m1, m2, m3⟩ := hsg1 k id hk
        obtain ⟨cs', cc, el, q1, q2, q3, q4⟩ := hH.B.box id b hb
        rw [m1] at q1
        simp only [Option.some.injEq] at q1
        subst q1
        obtain ⟨p1, p2⟩ := renL_get m2
        refine ⟨us, cc, el, m3, q2, by rw [q3, p1], fun j u x hu hx => ?_⟩
        obtain ⟨u0, hu0, hru⟩ := p2 j u hu
        obtain ⟨s1, s2⟩ := q4 j u0 x hu0 hx
        refine ⟨RelV.ren hren rfl hH.W.noNil (fun b' hb' => ?_) s1 hru, s2⟩
        simp only [gc, hb', hthere2 id k hk, Option.map_some]
      ·change (rts[k]?).bind g1.φ = some b at hb
       change (rts[k']?).bind g1.φ = some b at hb'
       cases hk : rts[k]? with
       | none => simp [hk] at hb
       | some id =>
        cases hk' : rts[k']? with
        | none => simp [hk'] at hb'
        | some id' =>
         simp [hk] at hb
         simp [hk'] at hb'
         have := hH.B.inj id id' b hb hb'
         subst this
         have h1 := hthere2 id k hk
         have h2 := hthere2 id k' hk'
         rw [h1] at h2
         simpa using h2
      ·change (rts[k]?).bind g1.φ = some b at hb
       cases hk : rts[k]? with
       | none => simp [hk] at hb
       | some id => simp [hk] at hb; exact hH.B.apart id b hb
     have hcalls := hsound w gc args (by
       have : args.toList.length = vs1.length := by rw [hargs, hlen1]; simp [hvl, hcaps1.length]
       simpa using this) hrelargs hBc hWc (fun b l hb => by
       simp only [gc] at hb
       split at hb
       ·rename_i j hj
        simp only [Option.some.injEq] at hb
        subst hb
        left
        rcases hH.own b _ hj with ⟨h1, _⟩ | ⟨⟨j', hj', h1⟩, _⟩
        ·exact absurd h1 (hS.noArg b j)
        ·simp only [Loc.arg.injEq] at h1
         refine ⟨j, ?_, rfl⟩
         rw [hlen1]; simp; omega
       ·rename_i id off hj
        cases hx : rts.idxOf? id with
        | none => simp [hx] at hb
        | some k => simp [hx] at hb; exact .inr ⟨k, off, hb.symm⟩
       ·cases hb) (fun k b hb => by
       change (rts[k]?).bind g1.φ = some b at hb
       cases hk : rts[k]? with
       | none => simp [hk] at hb
       | some id => rw [hsl1]; exact (List.getElem?_eq_some_iff.1 hk).1)
     have hexec : (execOp a.eval o).run P w = .ok (.enter f args) w := by
      simp only [execOp, hop, resolve, hcl, hfv, Deferred.ofValue]
      simp [invoke, callFunc, hfn, hng, hbody, args]
      cases hb : fn.body with
      | none => simp [hb] at hbody
      | some _ => simp at hng; simp [hng]
     unfold wpOp
     simp only [List.getElem?_toArray, hi, wanted_sound hS.E hw, if_true]
     left
     simp only [Oper.wp, hexec, Oper.upon]
     refine hcalls.mono fun en w1 hpost => ?_
     obtain ⟨x, g', rfl, hrx, hB', hW', hext, hOend⟩ := hpost
     let g2 : Gh := { F := g'.F, φ := g1.φ, O := fun b => match g'.O b with
      | some .res => some (.arg 0)
      | some (.box k off) => (match rts[k]? with | some id => some (.box id off) | none => none)
      | _ => match g1.O b with
       | some (.slot s) => some (.slot s)
       | some (.box id off) => if rts.contains id then none else some (.box id off)
       | _ => none }
     have hlt : ∀ b l, g1.O b = some l -> b < w.heap.size := by
      intro b l hb
      have := hH.W.own b l hb
      cases hF : g1.F b with
      | none => simp [hF] at this
      | some lim => exact hH.W.lt b lim hF
     have hnone : ∀ b l, g1.O b = some l -> gc.O b = none -> g'.O b = none /\ w1.heap[b]? = w.heap[b]? /\ g'.F b = g1.F b := by
      intro b l hb hc
      have hbl := hlt b l hb
      have hg' : g'.O b = none := by
       cases hO : g'.O b with
       | none => rfl
       | some l' =>
        rcases hext.own b l' hO with h1 | ⟨l'', h1⟩
        ·omega
        ·rw [hc] at h1; cases h1
      obtain ⟨h1, h2⟩ := hext.old b hbl (fun k hk => by
       change (rts[k]?).bind g1.φ = some b at hk
       cases hk' : rts[k]? with
       | none => simp [hk'] at hk
       | some id =>
        simp [hk'] at hk
        have h3 := hH.B.apart id b hk
        have h4 := hH.W.own b l hb
        rw [h3] at h4; simp at h4) hc
      exact ⟨hg', h1, h2⟩
     have hboxsame : ∀ id b, g1.φ id = some b -> id ∉ rts -> w1.heap[b]? = w.heap[b]? := by
      intro id b hb hid
      refine (hext.old b (hH.W.ltφ id b hb) (fun k hk => ?_) ?_).1
      ·change (rts[k]?).bind g1.φ = some b at hk
       cases hk' : rts[k]? with
       | none => simp [hk'] at hk
       | some id' =>
        simp [hk'] at hk
        have := hH.B.inj id id' b hb hk
        subst this
        exact hid (List.mem_of_getElem? hk')
      ·cases hO : g1.O b with
       | none => simp only [gc, hO]
       | some l =>
        have h3 := hH.B.apart id b hb
        have h4 := hH.W.own b l hO
        rw [h3] at h4; simp at h4
     have hW2 : WF P w1 g2 := by
      refine ⟨hW'.lt, fun id b hb => ?_, fun b hb => ?_, fun b l hb => ?_, hW'.globs (Nat.le_refl _) (fun _ _ => rfl) (fun b hb => by simp only [g2, (hW'.glob b hb).2.2.1, (hH.W.glob b hb).2.2.1]) (fun b hb => (hH.W.glob b hb).2.2.2)⟩
      ·have := hH.W.ltφ id b hb
       have := hext.size
       omega
      ·simp only [g2] at hb
       split at hb
       ·cases hb
       ·split at hb <;> cases hb
       ·split at hb
        ·cases hb
        ·split at hb <;> cases hb
        ·cases hb
      ·simp only [g2] at hb ⊢
       split at hb
       ·exact hW'.own b _ (by assumption)
       ·exact hW'.own b _ (by assumption)
       ·have hg1 : ∃ l', g1.O b = some l' := by
         split at hb
         ·exact ⟨_, by assumption⟩
         ·exact ⟨_, by assumption⟩
         ·cases hb
        obtain ⟨l', hl'⟩ := hg1
        have h1 := hH.W.own b l' hl'
        cases hF : g1.F b with
        | none => simp [hF] at h1
        | some lim =>
         obtain ⟨lim', h2, _⟩ := hext.keeps b lim hF
         simp [h2]
     have hl2 : Later w g1 w1 g2 := ⟨hext.keeps, fun _ _ h => h⟩
     have hslot : ∀ s b, g1.O b = some (.slot s) -> g2.O b = some (.slot s) /\ g2.F b = g1.F b /\ w1.heap[b]? = w.heap[b]? := by
      intro s b hb
      obtain ⟨h1, h2, h3⟩ := hnone b _ hb (by simp only [gc, hb])
      exact ⟨by simp only [g2, h1, hb], h3, h2⟩
     have hE2 : SimE w1 g2 e' a := ⟨hH.E.size, fun s hs => RelV.later hl2 hH.W.noNil (fun b hb => hslot s b hb) (hH.E.at_ s hs)⟩
     have hback : ∀ (k id b : Nat), rts[k]? = some id -> g'.φ k = some b -> g2.φ id = some b := by
      intro k id b hk hb
      show g1.φ id = some b
      have hc : gc.φ k = g1.φ id := by show (rts[k]?).bind g1.φ = _; rw [hk]; rfl
      cases hφ : g1.φ id with
      | none =>
       obtain ⟨b', hb'⟩ := hmapped id (List.mem_of_getElem? hk)
       rw [hb'] at hφ; cases hφ
      | some b' =>
       have := hext.keepφ k b' (by rw [hc]; exact hφ)
       rw [hb] at this; exact this.symm
     have hB2 : SimB w1 g2 sig3' := by
      refine ⟨fun id b hb => ?_, hH.B.inj, fun id b hb => ?_⟩
      ·have hb1 : g1.φ id = some b := hb
       obtain ⟨cs, cc, el, q1, q2, q3, q4⟩ := hH.B.box id b hb1
       have hidlt := (List.getElem?_eq_some_iff.1 q1).1
       by_cases hid : id ∈ rts
       ·obtain ⟨k, hk⟩ := List.getElem?_of_mem hid
        have hφk : g'.φ k = some b := hext.keepφ k b (by show (rts[k]?).bind g1.φ = _; rw [hk]; exact hb1)
        obtain ⟨cs2, us2, m1, m2, m3⟩ := hs3b k id hk hidlt
        obtain ⟨cs2', cc2, el2, p1, p2, p3, p4⟩ := hB'.box k b hφk
        rw [m1] at p1
        simp only [Option.some.injEq] at p1
        subst p1
        obtain ⟨t1, t2⟩ := renL_get m2
        refine ⟨us2, cc2, el2, m3, p2, by rw [p3, t1], fun j u y hu hy => ?_⟩
        obtain ⟨u0, hu0, hru⟩ := t2 j u hu
        obtain ⟨s1, s2⟩ := p4 j u0 y hu0 hy
        refine ⟨RelV.ren (g2 := g2) (fun k' id' b' h1 h2 => hback k' id' b' h1 h2) rfl hW'.noNil (fun b' hb' => ?_) s1 hru, s2⟩
        simp only [g2, hb', hk]
       ·refine ⟨cs, cc, el, by rw [hs3a id hid]; exact q1, by rw [hboxsame id b hb1 hid]; exact q2, q3, fun j u y hu hy => ?_⟩
        obtain ⟨s1, s2⟩ := q4 j u y hu hy
        refine ⟨RelV.later hl2 hH.W.noNil (fun b' hb' => ?_) s1, s2⟩
        have hx : rts.idxOf? id = none := by rw [List.idxOf?_eq_none_iff]; exact hid
        obtain ⟨h1, h2, h3⟩ := hnone b' _ hb' (by simp only [gc, hb', hx, Option.map_none])
        refine ⟨?_, h3, h2⟩
        simp only [g2, h1, hb']
        rw [if_neg (by simpa using hid)]
      ·have hb1 : g1.φ id = some b := hb
       show g'.F b = none
       by_cases hid : id ∈ rts
       ·obtain ⟨k, hk⟩ := List.getElem?_of_mem hid
        exact hB'.apart k b (hext.keepφ k b (by show (rts[k]?).bind g1.φ = _; rw [hk]; exact hb1))
       ·have hF := hH.B.apart id b hb1
        have h1 : ∀ k, gc.φ k ≠ some b := by
         intro k hk
         change (rts[k]?).bind g1.φ = some b at hk
         cases hk' : rts[k]? with
         | none => simp [hk'] at hk
         | some id' =>
          simp [hk'] at hk
          have := hH.B.inj id id' b hb1 hk
          subst this
          exact hid (List.mem_of_getElem? hk')
        have h2 : gc.O b = none := by
         cases hO : g1.O b with
         | none => simp only [gc, hO]
         | some l =>
          have h4 := hH.W.own b l hO
          rw [hF] at h4; simp at h4
        have h3 := (hext.old b (hH.W.ltφ id b hb1) h1 h2).2
        rw [h3]; exact hF
     have hrel2 : RelV w1 g2 (.arg 0) v1 x := by
      refine RelV.ren (g2 := g2) (fun k' id' b' h1 h2 => hback k' id' b' h1 h2) rfl hW'.noNil (fun b' hb' => ?_) hrx hv1
      simp only [g2, hb']
     have hO2 : ∀ b l, g2.O b = some l -> w.heap.size <= b \/ ∃ l', g1.O b = some l' := by
      intro b l hb
      simp only [g2] at hb
      have hvia : (∃ l', g'.O b = some l') -> w.heap.size <= b \/ ∃ l', g1.O b = some l' := by
       rintro ⟨l', hl'⟩
       rcases hext.own b l' hl' with h1 | ⟨l'', h1⟩
       ·exact .inl h1
       ·simp only [gc] at h1
        split at h1
        ·exact .inr ⟨_, by assumption⟩
        ·exact .inr ⟨_, by assumption⟩
        ·cases h1
      split at hb
      ·exact hvia ⟨_, by assumption⟩
      ·exact hvia ⟨_, by assumption⟩
      ·split at hb
       ·exact .inr ⟨_, by assumption⟩
       ·exact .inr ⟨_, by assumption⟩
       ·cases hb
     have hext2 : Ext w g1 w1 g2 := by
      refine ⟨hext.size, hext.keeps, fun b hb h1 h2 => hext.old b hb (fun k hk => ?_) ?_, hext.os, hext.tape, hext.output, fun _ _ h => h, fun id b hb => .inr ⟨id, hb⟩, hO2⟩
      ·change (rts[k]?).bind g1.φ = some b at hk
       cases hk' : rts[k]? with
       | none => simp [hk'] at hk
       | some id => simp [hk'] at hk; exact h1 id hk
      ·simp only [gc, h2]
     have hHext : Ext w g w g1 := by
      refine ⟨Nat.le_refl _, by rw [hH.same.1]; exact Keeps.refl _ _, fun b _ _ _ => ⟨rfl, by rw [hH.same.1]⟩, rfl, rfl, rfl, fun id b hb => by rw [hH.same.2]; exact hb, fun id b hb => .inr ⟨id, by rw [<- hH.same.2]; exact hb⟩, fun b l hb => ?_⟩
      rcases hH.own b l hb with ⟨h1, _⟩ | ⟨_, l', h1, _⟩
      ·exact .inr ⟨l, h1⟩
      ·exact .inr ⟨l', h1⟩
     have hBr : Brought P w g 0 e' sig3' a v1 x w1 g2 sig3' := by
      refine ⟨hE2, hB2, hW2, hrel2, hHext.trans hext2, fun b j hb => ?_, fun b hb => ?_, hH.same.2⟩
      ·simp only [g2] at hb
       split at hb
       ·simpa using hb.symm
       ·split at hb <;> cases hb
       ·split at hb
        ·cases hb
        ·split at hb <;> cases hb
        ·cases hb
      ·simp only [g2] at hb
       split at hb
       ·cases hb
       ·split at hb <;> cases hb
       ·split at hb
        ·cases hb
        ·split at hb <;> cases hb
        ·cases hb
     obtain ⟨g3, hS3, hext3⟩ := after_brought (v0 := .undef) (x0 := Go.undef) (sig' := sig') (g1 := g2) hS hR hi (by simp [isAlloc, hop]) (by simp [hop]) (by simp [hop]) hH.undef hH.plain hH.sigLen (by
       exact ⟨hBr.E, hBr.B, hBr.W, hBr.rel, hBr.ext, hBr.arg, hBr.res, hBr.φ⟩) hsl3 hH.same.2 (tl' := r.tl.set i (some rts)) (.inr ⟨rts, rfl, fun id b hb hid => hboxsame id b (by rw [hH.same.2]; exact hb) hid⟩) (fun h => by
       exfalso
       have hi' : i < r.tl.length := by rw [hS.tlen]; exact (List.getElem?_eq_some_iff.1 hi).1
       have := hS.tnone i hR.fresh rts
       rw [<- h] at this
       simp [hi'] at this)
     exact hK _ _ g3 hS3 hext3
    ·simp at hev
   ·simp at hev
  ·simp at hev
 ·simp at hev
end
end Go.Eng
