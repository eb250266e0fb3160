/- The engine, ninth part: what a region's state stands for; steps that turn nothing. -/
import Derived.Test.YtimkclpogbfciaaDoorEngS
set_option linter.unusedVariables false
set_option linter.unusedSimpArgs false
namespace Go.Eng
open Go.RowKit
structure Ext (w0 : World) (g0 : Gh) (w : World) (g : Gh) : Prop where
 size : w0.heap.size <= w.heap.size
 keeps : Keeps w0 g0.F w g.F
 old : ∀ b, b < w0.heap.size -> (∀ id, g0.φ id ≠ some b) -> g0.O b = none -> w.heap[b]? = w0.heap[b]? /\ g.F b = g0.F b
 os : w.os = w0.os
 tape : w.tape = w0.tape
 output : w.output = w0.output
 keepφ : ∀ id b, g0.φ id = some b -> g.φ id = some b
 box : ∀ id b, g.φ id = some b -> w0.heap.size <= b \/ ∃ id', g0.φ id' = some b
 own : ∀ b l, g.O b = some l -> w0.heap.size <= b \/ ∃ l', g0.O b = some l'
theorem Ext.refl (w : World) (g : Gh) : Ext w g w g :=
 ⟨Nat.le_refl _, Keeps.refl _ _, fun _ _ _ _ => ⟨rfl, rfl⟩, rfl, rfl, rfl, fun _ _ h => h, fun id b h => .inr ⟨id, h⟩, fun b l h => .inr ⟨l, h⟩⟩
theorem Ext.trans {w0 w w' : World} {g0 g g' : Gh} (h : Ext w0 g0 w g) (k : Ext w g w' g') : Ext w0 g0 w' g' := by
 refine ⟨Nat.le_trans h.size k.size, h.keeps.trans k.keeps, ?_, k.os.trans h.os, k.tape.trans h.tape, k.output.trans h.output, fun id b hb => k.keepφ id b (h.keepφ id b hb), ?_, ?_⟩
 ·intro b hb h1 h2
  obtain ⟨h3, h4⟩ := h.old b hb h1 h2
  have := h.size
  obtain ⟨k1, k2⟩ := k.old b (by omega) (fun id hid => by rcases h.box id b hid with hx | ⟨id', hx⟩; omega; exact h1 id' hx)
   (by cases hO : g.O b with
     | none => rfl
     | some l => rcases h.own b l hO with hx | ⟨l', hx⟩; omega; rw [h2] at hx; cases hx)
  exact ⟨k1.trans h3, k2.trans h4⟩
 ·intro id b hb
  have := h.size
  rcases k.box id b hb with hx | ⟨id', hx⟩
  ·exact .inl (by omega)
  ·exact h.box id' b hx
 ·intro b l hb
  have := h.size
  rcases k.own b l hb with hx | ⟨l', hx⟩
  ·exact .inl (by omega)
  ·exact h.own b l' hx
theorem Ext.later {w w' : World} {g g' : Gh} (h : Ext w g w' g') : Later w g w' g' := ⟨h.keeps, h.keepφ⟩
theorem Ext.owners (w : World) (g : Gh) {O : Nat -> Option Loc} (h : ∀ b l, O b = some l -> ∃ l', g.O b = some l') : Ext w g w (g.owners O) :=
 ⟨Nat.le_refl _, Keeps.refl _ _, fun _ _ _ _ => ⟨rfl, rfl⟩, rfl, rfl, rfl, fun _ _ h => h, fun id b h => .inr ⟨id, h⟩, fun b l hb => .inr (h b l hb)⟩
structure SimR (P : Program) (ops : List Oper) (base : Nat) (dn : Nat -> Prop) (r : R) (a : Act) (w : World) (g : Gh) : Prop where
 E : SimE w g r.env a
 B : SimB w g r.sig
 W : WF P w g
 C : Claims P ops dn w g r.env r.tl a
 noArg : ∀ b k, g.O b ≠ some (.arg k)
 noRes : ∀ b, g.O b ≠ some .res
 defers : a.defers = []
 tlen : r.tl.length = ops.length
 free : ∀ (i : Nat) (o : Oper), ops[i]? = some o -> isAlloc o = true -> r.tl[i]? = some none -> base + boxNo ops i < r.sig.length /\ g.φ (base + boxNo ops i) = none
 deps : ∀ (j k : Nat) (o ok : Oper) (d : Nat), dn j -> ops[j]? = some o -> .tmp d ∈ o.op.operands -> k < j -> ops[k]? = some ok -> ok.dst = some d -> dn k
 tnone : ∀ (i : Nat), ¬ dn i -> ∀ (ids : List Nat), r.tl[i]? ≠ some (some ids)
section
variable {P : Program} {w w' : World} {g g' : Gh} {e : Env} {a a' : Act} {sig : Sig} {ops : List Oper} {base : Nat} {dn : Nat -> Prop} {r r' : R}
def also (dn : Nat -> Prop) (i : Nat) : Nat -> Prop := fun k => dn k \/ k = i
theorem Claims.step {tl tl' : List (Option (List Nat))} {e' : Env} (hC : Claims P ops dn w g e tl a) {i : Nat} {o : Oper} (hi : ops[i]? = some o) (hni : ¬ dn i)
  (hdeps : ∀ (j k : Nat) (o ok : Oper) (d : Nat), dn j -> ops[j]? = some o -> .tmp d ∈ o.op.operands -> k < j -> ops[k]? = some ok -> ok.dst = some d -> dn k)
  (htmp : ∀ s, o.dst ≠ some s -> a'.tmps.getD s undef = a.tmps.getD s undef)
  (hundef : ∀ s, o.dst ≠ some s -> e.at s = .undef -> e'.at s = .undef)
  (hplain : ∀ s, o.dst ≠ some s -> (e'.at s).plain = (e.at s).plain)
  (htl : ∀ (k : Nat) (ids : List Nat), tl[k]? = some (some ids) -> tl'[k]? = some (some ids))
  (hbox : ∀ id b, g.φ id = some b -> (∀ (k : Nat) (ids : List Nat), tl'[k]? = some (some ids) -> id ∉ ids) -> g'.φ id = some b /\ ∀ off, w'.cell? ⟨b, off, none⟩ = w.cell? ⟨b, off, none⟩)
  (hm : ∀ s d, o.op = .move (.tmp s) -> o.dst = some d -> d ≠ s -> e'.at d = .undef \/ a'.tmps.getD d undef = a'.tmps.getD s undef)
  (hl : ∀ t ad d id off, o.op = .load t ad -> o.dst = some d -> rd e' ad = some (.ptr id off) -> ad ≠ .tmp d -> tyAgg P t = some false -> e'.at d = .undef \/ ∃ b, g'.φ id = some b /\ w'.cell? ⟨b, off, none⟩ = some (a'.tmps.getD d undef)) :
  Claims P ops (also dn i) w' g' e' tl' a' := by
 refine ⟨?_, ?_⟩
 ·intro j oj s d hj hoj hop hdst huniq hs
  rcases hj with hj | rfl
  ·have hd : o.dst ≠ some d := fun h => hni (by rw [huniq i o hi h]; exact hj)
   have hs' : o.dst ≠ some s := hs i o (.inr rfl) hi
   rw [htmp d hd, htmp s hs']
   rcases hC.move j oj s d hj hoj hop hdst huniq (fun k ok hk hok => hs k ok (.inl hk) hok) with h | h
   ·exact .inl (hundef d hd h)
   ·exact .inr h
  ·rw [hi] at hoj
   simp only [Option.some.injEq] at hoj
   subst hoj
   exact hm s d hop hdst (fun h => hs j o (.inr rfl) hi (by rw [hdst, h]))
 ·intro j oj t ad d id off hj hoj hop hdst huniq hp hrd hag hids
  obtain ⟨p, rfl, hp⟩ := hp
  rcases hj with hj | rfl
  ·have hd : o.dst ≠ some d := fun h => hni (by rw [huniq i o hi h]; exact hj)
   have hpd : o.dst ≠ some p := by
    rcases hp with hp | ⟨j', hlt, hp⟩
    ·exact hp i o hi
    ·intro h
     have := hp i o hi h
     subst this
     exact hni (hdeps j i oj o p hj hoj (by rw [hop]; simp [Op.operands]) hlt hi h)
   rw [htmp d hd]
   have hrd0 : rd e (.tmp p) = some (.ptr id off) := by
    simp only [rd, rdF] at hrd ⊢
    rw [<- hplain p hpd]; exact hrd
   rcases hC.load j oj t (.tmp p) d id off hj hoj hop hdst huniq ⟨p, rfl, hp⟩ hrd0 hag (fun k ids hk => hids k ids (htl k ids hk)) with h | ⟨b, h1, h2⟩
   ·exact .inl (hundef d hd h)
   ·obtain ⟨k1, k2⟩ := hbox id b h1 hids
    exact .inr ⟨b, k1, by rw [k2]; exact h2⟩
  ·rw [hi] at hoj
   simp only [Option.some.injEq] at hoj
   subst hoj
   refine hl t (.tmp p) d id off hop hdst hrd (fun h => ?_) hag
   simp only [Operand.tmp.injEq] at h
   subst h
   rcases hp with hp | ⟨j', hlt, hp⟩
   ·exact hp j o hi hdst
   ·have := hp j o hi hdst
    omega
theorem Claims.also_none (hC : Claims P ops dn w g e r.tl a) {i : Nat} (hi : ops[i]? = none) : Claims P ops (also dn i) w g e r.tl a := by
 refine ⟨?_, ?_⟩
 ·intro j oj s d hj hoj hop hdst huniq hs
  rcases hj with hj | rfl
  ·exact hC.move j oj s d hj hoj hop hdst huniq (fun k ok hk hok => hs k ok (.inl hk) hok)
  ·rw [hi] at hoj; cases hoj
 ·intro j oj t ad d id off hj hoj hop hdst huniq hp hrd hag hids
  rcases hj with hj | rfl
  ·exact hC.load j oj t ad d id off hj hoj hop hdst huniq hp hrd hag hids
  ·rw [hi] at hoj; cases hoj
theorem deps_also (h : ∀ (j k : Nat) (o ok : Oper) (d : Nat), dn j -> ops[j]? = some o -> .tmp d ∈ o.op.operands -> k < j -> ops[k]? = some ok -> ok.dst = some d -> dn k) {i : Nat}
  (hi : ∀ (k : Nat) (o ok : Oper) (d : Nat), ops[i]? = some o -> .tmp d ∈ o.op.operands -> k < i -> ops[k]? = some ok -> ok.dst = some d -> dn k) :
  ∀ (j k : Nat) (o ok : Oper) (d : Nat), also dn i j -> ops[j]? = some o -> .tmp d ∈ o.op.operands -> k < j -> ops[k]? = some ok -> ok.dst = some d -> also dn i k := by
 intro j k o ok d hj hoj hd hk hok hdst
 rcases hj with hj | rfl
 ·exact .inl (h j k o ok d hj hoj hd hk hok hdst)
 ·exact .inl (hi k o ok d hoj hd hk hok hdst)
theorem getD_put_ne {a : Act} {dst : Option Tmp} {x : Value} {s : Nat} (h : dst ≠ some s) : (a.put dst x).tmps.getD s undef = a.tmps.getD s undef := by
 cases dst with
 | none => rfl
 | some d => rw [getD_put, if_neg (fun hc => h (by rw [hc.1]))]
theorem at_put_ne {e : Env} {dst : Option Nat} {v : V} {s : Nat} (h : dst ≠ some s) : (Env.put e dst v).at s = e.at s := by
 cases dst with
 | none => rfl
 | some d => simp only [Env.put]; rw [at_set, if_neg (fun hc => h (by rw [hc.1]))]
theorem put_defers (a : Act) (dst : Option Tmp) (x : Value) : (a.put dst x).defers = a.defers := by cases dst <;> rfl
theorem put_any (hW : WF P w g) (hE : SimE w g e a) (dst : Option Nat) {v : V} {x : Value} (hA : ∀ b k, g.O b ≠ some (.arg k)) (hr : ∀ l, RelV w g l v x) :
  ∃ O, SimE w (g.owners O) (Env.put e dst v) (a.put dst x) /\ (∀ b l, O b = some l -> g.O b = some l) /\ (∀ b id off, g.O b = some (.box id off) -> O b = some (.box id off)) := by
 cases dst with
 | none => exact ⟨g.O, hE, fun _ _ h => h, fun _ _ _ h => h⟩
 | some d =>
  refine ⟨moveHome g.O (.arg 0) d, put_sim hW hE (by simp) (by simp) (hr (.arg 0)), ?_, ?_⟩
  ·intro b l h
   unfold moveHome at h
   split at h
   ·cases h
   ·rename_i h1
    split at h
    ·rename_i h2; exact absurd h2 (hA b 0)
    ·exact h
  ·intro b id off h
   unfold moveHome
   rw [if_neg (by rw [h]; simp), if_neg (by rw [h]; simp)]
   exact h
def dropArg (O : Nat -> Option Loc) (k : Nat) : Nat -> Option Loc := fun b => if O b = some (.arg k) then none else O b
theorem put_arg (hW : WF P w g) (hE : SimE w g e a) (dst : Option Nat) {k : Nat} {v : V} {x : Value} (hA : ∀ b k', g.O b = some (.arg k') -> k' = k) (hr : RelV w g (.arg k) v x) :
  ∃ O, SimE w (g.owners O) (Env.put e dst v) (a.put dst x) /\ (∀ b l, O b = some l -> ∃ l', g.O b = some l') /\ (∀ b id off, g.O b = some (.box id off) -> O b = some (.box id off)) ∧
   (∀ b k', O b ≠ some (.arg k')) /\ (∀ b, O b = some .res -> g.O b = some .res) /\ (∀ b, O b = some .nil -> g.O b = some .nil) := by
 cases dst with
 | none =>
  refine ⟨dropArg g.O k, ⟨hE.size, fun s hs => (hE.at_ s hs).owners hW (fun b hb => by unfold dropArg; rw [if_neg (by rw [hb]; simp)]; exact hb)⟩, ?_, ?_, ?_, ?_, ?_⟩
  ·intro b l h
   unfold dropArg at h
   split at h
   ·cases h
   ·exact ⟨l, h⟩
  ·intro b id off h
   unfold dropArg
   rw [if_neg (by rw [h]; simp)]; exact h
  ·intro b k' h
   unfold dropArg at h
   split at h
   ·cases h
   ·rename_i h1; exact h1 (by rw [h, hA b k' h])
  ·intro b h
   unfold dropArg at h
   split at h
   ·cases h
   ·exact h
  ·intro b h
   unfold dropArg at h
   split at h
   ·cases h
   ·exact h
 | some d =>
  refine ⟨moveHome g.O (.arg k) d, put_sim hW hE (by simp) (by simp) hr, ?_, ?_, ?_, ?_, ?_⟩
  ·intro b l h
   unfold moveHome at h
   split at h
   ·cases h
   ·split at h
    ·exact ⟨_, by assumption⟩
    ·exact ⟨l, h⟩
  ·intro b id off h
   unfold moveHome
   rw [if_neg (by rw [h]; simp), if_neg (by rw [h]; simp)]
   exact h
  ·intro b k' h
   unfold moveHome at h
   split at h
   ·cases h
   ·split at h
    ·cases h
    ·rename_i h1; exact h1 (by rw [h, hA b k' h])
  ·intro b h
   unfold moveHome at h
   split at h
   ·cases h
   ·split at h
    ·cases h
    ·exact h
  ·intro b h
   unfold moveHome at h
   split at h
   ·cases h
   ·split at h
    ·cases h
    ·exact h
theorem wanted_sound (hE : SimE w g e a) {o : Oper} {b : Bool} (h : wantedV ops e o = some b) : Region.wanted o (yielded ops.toArray a.tmps) = b := by
 unfold wantedV at h
 unfold Region.wanted
 cases hg : o.guard with
 | none => simp [hg] at h ⊢; exact h
 | some q =>
  obtain ⟨j, want⟩ := q
  simp only [hg] at h ⊢
  unfold yielded
  simp only [List.getElem?_toArray]
  cases hd : (ops[j]?).bind (·.dst) with
  | none => simp only [hd] at h; simp at h; subst h; simp [hd]
  | some d =>
   simp only [hd] at h
   split at h
   ·rename_i c hc
    simp only [Option.some.injEq] at h
    have hlt := (List.getElem?_eq_some_iff.1 hc).1
    have hat := hE.at_ d hlt
    have e1 : e.at d = .t (.sc (.bool c)) := by simp [Env.at, hc]
    rw [e1] at hat
    simp only [RelV] at hat
    have e2 := hat.toSc.1
    have hlt2 : d < a.tmps.size := by rw [hE.size]; exact hlt
    have e3 : a.tmps[d]? = some (.bool c) := by
     simp [Array.getElem?_eq_getElem hlt2] at e2 ⊢; exact e2
    simp [hd, e3, <- h]
   ·rename_i hc
    simp only [Option.some.injEq] at h
    subst h
    have hlt := (List.getElem?_eq_some_iff.1 hc).1
    have hat := hE.at_ d hlt
    have e1 : e.at d = .undef := by simp [Env.at, hc]
    rw [e1] at hat
    simp only [RelV] at hat
    have hlt2 : d < a.tmps.size := by rw [hE.size]; exact hlt
    have e3 : a.tmps[d]? = some undef := by
     simp [Array.getElem?_eq_getElem hlt2] at hat ⊢; exact hat
    simp [hd, e3, undef]
   ·simp at h
theorem NStep.ext (hW : WF P w g) {w1 : World} {g1 : Gh} (h : NStep w g w1 g1) : Ext w g w1 g1 /\ WF P w1 g1 /\ g1.O = g.O /\ g1.φ = g.φ /\ (∀ b, b < w.heap.size -> w1.heap[b]? = w.heap[b]? /\ g1.F b = g.F b) := by
 rcases h with ⟨rfl, rfl⟩ | ⟨cs, el, n, rfl, rfl, hn⟩
 ·exact ⟨Ext.refl _ _, hW, rfl, rfl, fun _ _ => ⟨rfl, rfl⟩⟩
 ·have hold : ∀ b, b < w.heap.size -> (w.alloc (.cells cs el (0, 0))).heap[b]? = w.heap[b]? := by
   intro b hb
   show (w.heap.push _)[b]? = _
   rw [Array.getElem?_push, if_neg (by omega)]
  refine ⟨⟨by simp, Keeps.alloc hW _ _, fun b hb _ _ => ⟨hold b hb, by simp; omega⟩, rfl, rfl, rfl, fun _ _ h => h, fun id b h => .inr ⟨id, h⟩, fun b l h => .inr ⟨l, h⟩⟩, ?_, rfl, rfl, fun b hb => ⟨hold b hb, by simp; omega⟩⟩
  refine ⟨?_, ?_, hW.noNil, ?_, hW.globs (by simp) (fun b hb => hold b (hW.glob b hb).1) (fun b hb => (hW.glob b hb).2.2.1) (fun b hb => (hW.glob b hb).2.2.2)⟩
  ·intro b lim hb
   simp only at hb
   split at hb
   ·rename_i h1; subst h1; simp
   ·have := hW.lt b lim hb; simp; omega
  ·intro id b hb
   have := hW.ltφ id b hb; simp; omega
  ·intro b l hb
   have := hW.own b l hb
   simp only
   split
   ·rfl
   ·exact this
theorem SimE.ofOld (hW : WF P w g) (hE : SimE w g e a) (hl : Later w g w' g') (hO : g'.O = g.O) (h : ∀ b, b < w.heap.size -> w'.heap[b]? = w.heap[b]? /\ g'.F b = g.F b) : SimE w' g' e a := by
 refine ⟨hE.size, fun s hs => RelV.later hl hW.noNil (fun b hb => ?_) (hE.at_ s hs)⟩
 have hF := hW.own b _ hb
 cases hFb : g.F b with
 | none => simp [hFb] at hF
 | some lim =>
  have := h b (hW.lt b lim hFb)
  exact ⟨by rw [hO]; exact hb, by rw [this.2, hFb], this.1⟩
theorem SimB.ofOld (hW : WF P w g) (hB : SimB w g sig) (hl : Later w g w' g') (hO : g'.O = g.O) (hφ : g'.φ = g.φ) (h : ∀ b, b < w.heap.size -> w'.heap[b]? = w.heap[b]? /\ g'.F b = g.F b) : SimB w' g' sig := by
 refine ⟨fun id b hb => ?_, by rw [hφ]; exact hB.inj, fun id b hb => ?_⟩
 ·rw [hφ] at hb
  obtain ⟨cs, c, el, h1, h2, h3, h4⟩ := hB.box id b hb
  refine ⟨cs, c, el, h1, by rw [(h b (hW.ltφ id b hb)).1]; exact h2, h3, fun k v x hv hx => ⟨RelV.later hl hW.noNil (fun b' hb' => ?_) (h4 k v x hv hx).1, (h4 k v x hv hx).2⟩⟩
  have hF := hW.own b' _ hb'
  cases hFb : g.F b' with
  | none => simp [hFb] at hF
  | some lim =>
   have := h b' (hW.lt b' lim hFb)
   exact ⟨by rw [hO]; exact hb', by rw [this.2, hFb], this.1⟩
 ·rw [hφ] at hb
  rw [(h b (hW.ltφ id b hb)).2]
  exact hB.apart id b hb
end
end Go.Eng
