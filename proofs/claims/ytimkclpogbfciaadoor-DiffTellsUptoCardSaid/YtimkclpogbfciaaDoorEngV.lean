/- The engine, eleventh part: assignments, stores, appends. -/
import Derived.Test.YtimkclpogbfciaaDoorEngU
set_option linter.unusedVariables false
set_option linter.unusedSimpArgs false
namespace Go.Eng
open Go.RowKit
section
variable {P : Program} {w w' : World} {g g' : Gh} {e e' : Env} {a a' : Act} {sig sig' : Sig} {ops : List Oper} {base : Nat} {dn : Nat -> Prop} {r r' : R}
theorem Handed.ext {k : Nat} {v : V} {x : Value} (h : Handed P w g k e sig a v x g' e' sig') : Ext w g w g' := by
 refine ⟨Nat.le_refl _, by rw [h.same.1]; exact Keeps.refl _ _, fun b _ _ _ => ⟨rfl, by rw [h.same.1]⟩, rfl, rfl, rfl, fun id b hb => by rw [h.same.2]; exact hb, fun id b hb => .inr ⟨id, by rw [<- h.same.2]; exact hb⟩, fun b l hb => ?_⟩
 rcases h.own b l hb with ⟨h1, _⟩ | ⟨_, l', h1, _⟩
 ·exact .inr ⟨l, h1⟩
 ·exact .inr ⟨l', h1⟩
theorem Handed.noRes {k : Nat} {v : V} {x : Value} (h : Handed P w g k e sig a v x g' e' sig') (hn : ∀ b, g.O b ≠ some .res) : ∀ b, g'.O b ≠ some .res := by
 intro b hb
 rcases h.own b _ hb with ⟨h1, _⟩ | ⟨h1, _⟩
 ·exact hn b h1
 ·cases h1
theorem Handed.arg {k : Nat} {v : V} {x : Value} (h : Handed P w g k e sig a v x g' e' sig') (hn : ∀ b j, g.O b ≠ some (.arg j)) : ∀ b j, g'.O b = some (.arg j) -> j = k := by
 intro b j hb
 rcases h.own b _ hb with ⟨h1, _⟩ | ⟨h1, _⟩
 ·exact absurd h1 (hn b j)
 ·simpa using h1
theorem handOn_deps {i : Nat} {o : Oper} (hR : Ready ops dn i) (hi : ops[i]? = some o) {x : Operand} (hx : x ∈ o.op.operands) : ∀ (d j : Nat) (o' : Oper), x = .tmp d -> j < i -> ops[j]? = some o' -> o'.dst = some d -> dn j := by
 intro d j o' hxd hji ho' hd
 subst hxd
 exact hR.deps j o o' d hi hx hji ho' hd
theorem step_assign (hS : SimR P ops base dn r a w g) {i : Nat} (hR : Ready ops dn i) {o : Oper} (hi : ops[i]? = some o) (hw : wantedV ops r.env o = some true) {x : Operand} (hop : o.op = .assign x) {v : V}
  (hh : handOn P true ops base i r.env r.sig r.tl x = some (v, e', sig')) : StepOk P ops base dn i { r with env := e'.put o.dst v, sig := sig' } a w g := by
 intro Q K hK
 obtain ⟨g1, hH⟩ := handOn_sound (k := 0) hS.E hS.B hS.W (fun b => hS.noArg b 0) hS.C (handOn_deps hR hi (by rw [hop]; simp [Op.operands])) (hR.below o hi (by simp [isE, hop])) hh
 refine wpOp_value hi (wanted_sound hS.E hw) (x := a.eval x) (w1 := w) (by simp [execOp, hop]) ?_
 obtain ⟨O, hE, hO1, hO2, hO3, hO4, hO5⟩ := put_arg hH.W hH.E o.dst (hH.arg hS.noArg) hH.rel
 refine hK _ _ (g1.owners O) ⟨hE, hH.B.owners hH.W hO2, hH.W.owners (fun b h => hH.W.noNil b (hO5 b h)) hO1, ?_, hO3, fun b h => hH.noRes hS.noRes b (hO4 b h), by rw [put_defers]; exact hS.defers, hS.tlen, ?_, deps_also hS.deps (fun k o ok d => hR.deps k o ok d), fun j hj => hS.tnone j (fun h => hj (.inl h))⟩ (hH.ext.trans (Ext.owners w g1 hO1))
 ·refine hS.C.step hi hR.fresh hS.deps (fun s hs => getD_put_ne hs) (fun s hs h => by rw [at_put_ne hs]; exact (hH.undef s).2 h) (fun s hs => by rw [at_put_ne hs]; exact hH.plain s) (fun k ids h => h)
   (fun id b hb _ => ⟨by simp only [Gh.owners, hH.same.2]; exact hb, fun _ => rfl⟩) (fun s d h => by rw [hop] at h; cases h) (fun t ad d id off h => by rw [hop] at h; cases h)
 ·intro j oj h1 h2 h3
  have := hS.free j oj h1 h2 h3
  refine ⟨by rw [hH.sigLen]; exact this.1, by simp only [Gh.owners, hH.same.2]; exact this.2⟩
theorem setCells_length : ∀ (ys vs : List V) (off : Nat), (setCells vs off ys).length = vs.length
 | [], vs, off => by simp [setCells]
 | y :: ys, vs, off => by simp only [setCells]; rw [setCells_length]; simp
theorem setCells_get : ∀ (ys vs : List V) (off j : Nat), (setCells vs off ys)[j]? = if off <= j /\ j < off + ys.length /\ j < vs.length then ys[j - off]? else vs[j]?
 | [], vs, off, j => by simp only [setCells]; rw [if_neg (by simp; omega)]
 | y :: ys, vs, off, j => by
  simp only [setCells]
  rw [setCells_get ys]
  simp only [List.length_set, List.length_cons]
  by_cases hj : off = j
  ·subst hj
   by_cases hl : off < vs.length
   ·rw [if_neg (by omega), if_pos (by omega)]
    simp [hl]
   ·rw [if_neg (by omega), if_neg (by omega)]
    rw [List.getElem?_eq_none (by simp; omega), List.getElem?_eq_none (by omega)]
  ·by_cases hc : off + 1 <= j /\ j < off + 1 + ys.length /\ j < vs.length
   ·rw [if_pos hc, if_pos (by omega), show j - off = j - (off + 1) + 1 by omega]
    simp
   ·rw [if_neg hc, if_neg (by omega)]
    rw [List.getElem?_set_ne hj]
def storeHome (O : Nat -> Option Loc) (id off n : Nat) : Nat -> Option Loc := fun b =>
 match O b with
 | some (.box id' k) => if id' = id /\ off <= k /\ k < off + n then none else some (.box id' k)
 | some (.arg _) => some (.box id off)
 | l => l
theorem heap_setRow_ne {w : World} {b : Nat} {cs : Array Value} {k : Nat} (h : k ≠ b) : (w.setRow b cs).heap[k]? = w.heap[k]? := by
 simp only [World.setRow, Array.getElem?_modify]
 rw [if_neg (by omega)]
theorem size_setRow {w : World} {b : Nat} {cs : Array Value} : (w.setRow b cs).heap.size = w.heap.size := by simp [World.setRow]
theorem step_store (hS : SimR P ops base dn r a w g) {i : Nat} (hR : Ready ops dn i) {o : Oper} (hi : ops[i]? = some o) (hw : wantedV ops r.env o = some true) {t : TypeId} {ad x : Operand} (hop : o.op = .store t ad x) {id off : Nat} (had : (rd r.env ad).bind V.asPtr = some (id, off)) {v : V}
  (hh : handOn P true ops base i r.env r.sig r.tl x = some (v, e', sig')) {n : Nat} (hn : tySize P t = some n) {cs : List V} (hcs : sig'[id]? = some (some cs)) (hvn : v.cells.length = n) (h1 : v.cells.all V.one = true) (hle : off + n <= cs.length) :
  StepOk P ops base dn i { r with env := e'.put o.dst .undef, sig := sig'.set id (some (setCells cs off v.cells)), tl := r.tl.set i (some [id]) } a w g := by
 intro Q K hK
 obtain ⟨g1, hH⟩ := handOn_sound (k := 0) hS.E hS.B hS.W (fun b => hS.noArg b 0) hS.C (handOn_deps hR hi (by rw [hop]; simp [Op.operands])) (hR.below o hi (by simp [isE, hop])) hh
 obtain ⟨u0, had0, had1⟩ := Option.bind_eq_some_iff.1 had
 obtain ⟨b, hb, hadv⟩ := (rd_rel hS.E had0 .nil).1.asPtr had1
 have hb1 : g1.φ id = some b := by rw [hH.same.2]; exact hb
 obtain ⟨cs', c, el, k1, k2, k3, k4⟩ := hH.B.box id b hb1
 rw [hcs] at k1
 simp only [Option.some.injEq] at k1
 subst k1
 have hcells : (a.eval x).cells.size = n /\ ∀ (j : Nat) (q : V) (y : Value), v.cells[j]? = some q -> (a.eval x).cells[j]? = some y -> (v.still = true /\ RelV w g1 .nil q y \/ v.still = false /\ j = 0 /\ n = 1 /\ RelV w g1 (.arg 0) q y) /\ y.oneCell' = true := by
  have hone : ∀ (j : Nat) (q : V), v.cells[j]? = some q -> q.one = true := fun j q hq => List.all_eq_true.1 h1 q (List.mem_of_getElem? hq)
  by_cases hst : v.still = true
  ·have hcl := cells_rel hH.rel hst (by cases v <;> first | rfl | exact absurd (hone 0 .any rfl) (by simp [V.one]))
   refine ⟨by rw [<- hvn, hcl.length]; simp, fun j q y hq hy => ?_⟩
   obtain ⟨z, hz, hr⟩ := hcl.get hq
   have : y = z := by simpa [hy] using hz
   subst this
   exact ⟨.inl ⟨hst, hr⟩, one_oneCell hr (hone j q hq)⟩
  ·cases v with
   | own sz es =>
    have hrel := hH.rel
    have hrel' := hrel
    simp only [RelV] at hrel
    have hsl : ∃ base len cap, a.eval x = .slice base len cap := by rcases hrel with ⟨_, h | ⟨_, h⟩⟩ | ⟨_, _, _, _, h, _⟩ <;> exact ⟨_, _, _, h⟩
    obtain ⟨b0, l0, c0, hsl⟩ := hsl
    simp only [V.cells, List.length_cons, List.length_nil] at hvn
    refine ⟨by rw [hsl]; simp [Value.cells]; omega, fun j q y hq hy => ?_⟩
    simp only [V.cells] at hq
    cases j with
    | zero =>
     simp at hq; subst hq
     rw [hsl] at hy
     simp [Value.cells] at hy
     subst hy
     refine ⟨.inr ⟨by simpa using hst, rfl, by omega, by rw [<- hsl]; exact hrel'⟩, rfl⟩
    | succ j => simp at hq
   | _ => simp [V.still] at hst
 obtain ⟨hsz, hcell⟩ := hcells
 let vs := (a.eval x).cells.toList
 have hvsl : vs.length = n := by simpa [vs] using hsz
 let c' : Array Value := (c.toList.take (off + 0) ++ vs ++ c.toList.drop (off + 0 + vs.length)).toArray
 let w1 := w.setRow b c'
 have hcsize : off + 0 + vs.length <= c.size := by rw [k3, hvsl]; omega
 have hst := run_storeCells_at P b off el vs 0 c w k2 hcsize (fun u hu => by
  obtain ⟨j, hj⟩ := List.getElem?_of_mem hu
  have hjl : j < v.cells.length := by rw [hvn, <- hvsl]; exact (List.getElem?_eq_some_iff.1 hj).1
  exact (hcell j _ u (List.getElem?_eq_getElem hjl) (by simpa [vs] using hj)).2)
 have hrun : (execOp a.eval o).run P w = .ok .skip w1 := by
  simp only [execOp, hop, Instr.storeAt, hadv, Instr.sureAddr, storeVar]
  simp [tySize_run hn, hsz]
  simp only [vs] at hst
  simp [hst, w1, c', vs]
 refine wpOp_unit hi (wanted_sound hS.E hw) hrun ?_
 have hheap : w1.heap[b]? = some (.cells c' el (0, 0)) := setRow_heap w b c c' el (0, 0) k2
 have hne : ∀ k, k ≠ b -> w1.heap[k]? = w.heap[k]? := fun k hk => heap_setRow_ne hk
 have hFb : g1.F b = none := hH.B.apart id b hb1
 have hc'size : c'.size = cs.length := by
  show (List.toArray _).size = _
  simp only [List.size_toArray, List.length_append, List.length_take, List.length_drop, Array.length_toList, hvsl]
  omega
 have hget : ∀ k, c'[k]? = if off <= k /\ k < off + n /\ k < cs.length then (a.eval x).cells[k - off]? else c[k]? := by
  intro k
  show (List.toArray _)[k]? = _
  simp only [List.getElem?_toArray, Nat.add_zero]
  rw [List.append_assoc]
  have hmin : min off c.toList.length = off := by rw [Array.length_toList, k3]; omega
  by_cases hk : k < off
  ·rw [List.getElem?_append_left (by rw [List.length_take, hmin]; exact hk), if_neg (by omega), List.getElem?_take, if_pos hk]
   simp
  ·rw [List.getElem?_append_right (by rw [List.length_take, hmin]; omega), List.length_take, hmin]
   by_cases hk2 : k < off + n
   ·rw [List.getElem?_append_left (by rw [hvsl]; omega), if_pos (by omega)]
    simp [vs]
   ·rw [List.getElem?_append_right (by rw [hvsl]; omega), hvsl, if_neg (by omega), List.getElem?_drop]
    rw [show off + n + (k - off - n) = k by omega]
    simp
 let g2 : Gh := g1.owners (storeHome g1.O id off n)
 have hkeep : Keeps w g1.F w1 g2.F := by
  intro k lim hk
  refine ⟨lim, hk, Nat.le_refl _, fun o' _ => ?_⟩
  have : k ≠ b := by intro h; subst h; rw [hFb] at hk; cases hk
  simp only [World.cell?, hne k this]
 have hl : Later w g1 w1 g2 := ⟨hkeep, fun _ _ h => h⟩
 have hroom : ∀ k l, g1.O k = some l -> k ≠ b := by
  intro k l hk h
  subst h
  have := hH.W.own k l hk
  rw [hFb] at this; simp at this
 have hslot : ∀ s k, g1.O k = some (.slot s) -> g2.O k = some (.slot s) /\ g2.F k = g1.F k /\ w1.heap[k]? = w.heap[k]? := by
  intro s k hk
  exact ⟨by simp only [g2, Gh.owners, storeHome, hk], rfl, hne k (hroom k _ hk)⟩
 have hW2 : WF P w1 g2 := by
  refine ⟨fun k lim hk => by show k < (w.setRow b c').heap.size; rw [size_setRow]; exact hH.W.lt k lim hk, fun k k' hk => by show k' < (w.setRow b c').heap.size; rw [size_setRow]; exact hH.W.ltφ k k' hk, fun k hk => ?_, fun k l hk => ?_, hH.W.globs (by show _ <= (w.setRow b c').heap.size; rw [size_setRow]; exact Nat.le_refl _) (fun k hk => hne k (fun h => (hH.W.glob k hk).2.2.2 id (by rw [h]; exact hb1))) (fun k hk => by simp only [g2, Gh.owners, storeHome, (hH.W.glob k hk).2.2.1]) (fun k hk => (hH.W.glob k hk).2.2.2)⟩
  ·simp only [g2, Gh.owners, storeHome] at hk
   split at hk
   ·split at hk <;> cases hk
   ·cases hk
   ·exact hH.W.noNil k hk
  ·simp only [g2, Gh.owners, storeHome] at hk
   split at hk
   ·exact hH.W.own k _ (by assumption)
   ·exact hH.W.own k _ (by assumption)
   ·exact hH.W.own k _ hk
 have hE2 : SimE w1 g2 e' a := ⟨hH.E.size, fun s hs => RelV.later hl hH.W.noNil (fun k hk => hslot s k hk) (hH.E.at_ s hs)⟩
 have hB2 : SimB w1 g2 (sig'.set id (some (setCells cs off v.cells))) := by
  have hidlt := (List.getElem?_eq_some_iff.1 hcs).1
  refine ⟨fun k k' hk => ?_, hH.B.inj, hH.B.apart⟩
  by_cases hkid : k = id
  ·subst hkid
   have : k' = b := by
    have h1 : g1.φ k = some k' := hk
    rw [hb1] at h1; simpa using h1.symm
   subst this
   refine ⟨setCells cs off v.cells, c', el, by simp [hidlt], hheap, by rw [setCells_length, hc'size], fun j q y hq hy => ?_⟩
   rw [setCells_get, hvn] at hq
   rw [hget] at hy
   by_cases hj : off <= j /\ j < off + n /\ j < cs.length
   ·rw [if_pos hj] at hq hy
    obtain ⟨hrel, h1c⟩ := hcell _ _ _ hq hy
    refine ⟨?_, h1c⟩
    rcases hrel with ⟨_, hr⟩ | ⟨_, hj0, hn1, hr⟩
    ·exact RelV.ofNil hW2.noNil (RelV.later hl hH.W.noNil (fun b hb => absurd hb (hH.W.noNil b)) hr)
    ·have : j = off := by omega
     subst this
     exact RelV.later hl hH.W.noNil (fun q hq => ⟨by simp only [g2, Gh.owners, storeHome, hq], rfl, hne q (hroom q _ hq)⟩) hr
   ·rw [if_neg hj] at hq hy
    have := k4 j q y hq hy
    refine ⟨RelV.later hl hH.W.noNil (fun q hq => ⟨?_, rfl, hne q (hroom q _ hq)⟩) this.1, this.2⟩
    simp only [g2, Gh.owners, storeHome, hq]
    rw [if_neg]
    intro hh
    have hjl : j < cs.length := by rw [<- k3]; exact (Array.getElem?_eq_some_iff.1 hy).1
    exact hj ⟨hh.2.1, hh.2.2, hjl⟩
  ·obtain ⟨cs2, c2, el2, m1, m2, m3, m4⟩ := hH.B.box k k' hk
   have hkb : k' ≠ b := fun h => hkid (hH.B.inj k id b (by rw [<- h]; exact hk) hb1)
   refine ⟨cs2, c2, el2, by rw [List.getElem?_set_ne (fun h => hkid h.symm)]; exact m1, by rw [hne k' hkb]; exact m2, m3, fun j q y hq hy => ?_⟩
   have := m4 j q y hq hy
   refine ⟨RelV.later hl hH.W.noNil (fun q hq => ⟨?_, rfl, hne q (hroom q _ hq)⟩) this.1, this.2⟩
   simp only [g2, Gh.owners, storeHome, hq]
   rw [if_neg (fun hh => hkid hh.1)]
 have hA2 : ∀ k j, g2.O k ≠ some (.arg j) := by
  intro k j hk
  simp only [g2, Gh.owners, storeHome] at hk
  split at hk
  ·split at hk <;> cases hk
  ·cases hk
  ·rename_i hx; exact hx j hk
 have hO2 : ∀ k l, g2.O k = some l -> ∃ l', g1.O k = some l' := by
  intro k l hk
  simp only [g2, Gh.owners, storeHome] at hk
  split at hk
  ·exact ⟨_, by assumption⟩
  ·exact ⟨_, by assumption⟩
  ·exact ⟨l, hk⟩
 have hext : Ext w g1 w1 g2 := by
  refine ⟨by show _ <= (w.setRow b c').heap.size; rw [size_setRow]; exact Nat.le_refl _, hkeep, fun k _ hk _ => ⟨hne k (fun h => hk id (by rw [h]; exact hb1)), rfl⟩, rfl, rfl, rfl, fun _ _ h => h, fun k k' hk => .inr ⟨k, hk⟩, fun k l hk => .inr (hO2 k l hk)⟩
 obtain ⟨O, hE, hP1, hP2⟩ := put_any hW2 hE2 o.dst (v := .undef) (x := Go.undef) hA2 (fun l => by simp only [RelV])
 have hi' : i < r.tl.length := by rw [hS.tlen]; exact (List.getElem?_eq_some_iff.1 hi).1
 refine hK _ _ (g2.owners O) ⟨hE, hB2.owners hW2 hP2, hW2.owners (fun b h => hW2.noNil b (hP1 b _ h)) (fun b l h => ⟨l, hP1 b l h⟩), ?_, fun b k h => hA2 b k (hP1 b _ h), fun k h => ?_, by rw [put_defers]; exact hS.defers, by simpa using hS.tlen, ?_, deps_also hS.deps (fun k o ok d => hR.deps k o ok d), fun j hj ids h => by simp only at h; rw [List.getElem?_set_ne (fun hh => hj (.inr hh.symm))] at h; exact hS.tnone j (fun h => hj (.inl h)) ids h⟩ ((hH.ext.trans hext).trans (Ext.owners w1 g2 (fun b l h => ⟨l, hP1 b l h⟩)))
 ·have hal : isAlloc o = false := by simp [isAlloc, hop]
  have hund : ∀ d, o.dst = some d -> (Env.put e' o.dst .undef).at d = .undef := by
   intro d hd
   rw [hd]
   simp only [Env.put]
   rw [at_set]
   split
   ·rfl
   ·rename_i h
    simp only [true_and, Nat.not_lt] at h
    simp [Env.at, List.getElem?_eq_none h]
  have htl := hS.tnone i hR.fresh
  refine hS.C.step hi hR.fresh hS.deps (fun s hs => getD_put_ne hs) (fun s hs h => by rw [at_put_ne hs]; exact (hH.undef s).2 h) (fun s hs => by rw [at_put_ne hs]; exact hH.plain s) (fun k ids h => ?_)
    (fun k k' hk hids => ⟨by simp only [Gh.owners, g2, hH.same.2]; exact hk, fun off' => ?_⟩) (fun s d h => by rw [hop] at h; cases h) (fun t ad d k off h => by rw [hop] at h; cases h)
  ·simp only
   rw [List.getElem?_set_ne]
   ·exact h
   ·intro hh; subst hh; exact htl ids h
  ·have hk' : k ≠ id := by
    intro h
    exact hids i [id] (by simp [hi']) (by simp [h])
   have : k' ≠ b := fun h => hk' (hS.B.inj k id b (by rw [<- h]; exact hk) hb)
   simp only [World.cell?, hne k' this]
 ·have := hP1 k _ h
  simp only [g2, Gh.owners, storeHome] at this
  split at this
  ·split at this <;> cases this
  ·cases this
  ·exact hH.noRes hS.noRes k this
 ·intro j oj h1 h2 h3
  simp only at h3 ⊢
  rw [List.getElem?_set] at h3
  split at h3
  ·simp [hi'] at h3
  ·have := hS.free j oj h1 h2 h3
   refine ⟨by rw [List.length_set, hH.sigLen]; exact this.1, by simp only [Gh.owners, g2, hH.same.2]; exact this.2⟩
end
end Go.Eng
