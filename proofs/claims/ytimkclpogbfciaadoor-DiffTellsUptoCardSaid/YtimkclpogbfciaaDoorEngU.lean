/- The engine, tenth part: the steps of a region, but for calls. -/
import Derived.Test.YtimkclpogbfciaaDoorEngT
set_option linter.unusedVariables false
set_option linter.unusedSimpArgs false
namespace Go.Eng
open Go.RowKit
section
variable {P : Program} {w w' : World} {g g' : Gh} {e : Env} {a a' : Act} {sig : Sig} {ops : List Oper} {base : Nat} {dn : Nat -> Prop} {r r' : R} {Q : Exit -> Act -> World -> Prop} {K : Act -> World -> Prop}
theorem wpOp_value {i : Nat} {o : Oper} (hi : ops[i]? = some o) (hw : Region.wanted o (yielded ops.toArray a.tmps) = true) {x : Value} {w1 : World} (hr : (execOp a.eval o).run P w = .ok (.value x) w1) (hK : K (a.put o.dst x) w1) :
  wpOp P ops.toArray Q i K a w := by
 unfold wpOp
 simp only [List.getElem?_toArray, hi, hw, if_true]
 left
 simp only [Oper.wp, hr, Oper.upon]
 exact hK
theorem wpOp_unit {i : Nat} {o : Oper} (hi : ops[i]? = some o) (hw : Region.wanted o (yielded ops.toArray a.tmps) = true) {w1 : World} (hr : (execOp a.eval o).run P w = .ok .skip w1) (hK : K (a.put o.dst Go.undef) w1) :
  wpOp P ops.toArray Q i K a w := by
 unfold wpOp
 simp only [List.getElem?_toArray, hi, hw, if_true]
 left
 simp only [Oper.wp, hr, Oper.upon]
 exact hK
theorem wpOp_skip {i : Nat} {o : Oper} (hi : ops[i]? = some o) (hw : Region.wanted o (yielded ops.toArray a.tmps) = false) (hK : K (a.put o.dst Go.undef) w) : wpOp P ops.toArray Q i K a w := by
 unfold wpOp
 simp only [List.getElem?_toArray, hi, hw, Bool.false_eq_true, if_false]
 exact hK
def StepOk (P : Program) (ops : List Oper) (base : Nat) (dn : Nat -> Prop) (i : Nat) (r' : R) (a : Act) (w : World) (g : Gh) : Prop :=
 ∀ (Q : Exit -> Act -> World -> Prop) (K : Act -> World -> Prop), (∀ a' w' g', SimR P ops base (also dn i) r' a' w' g' -> Ext w g w' g' -> K a' w') -> wpOp P ops.toArray Q i K a w
structure Ready (ops : List Oper) (dn : Nat -> Prop) (i : Nat) : Prop where
 fresh : ¬ dn i
 deps : ∀ (k : Nat) (o ok : Oper) (d : Nat), ops[i]? = some o -> .tmp d ∈ o.op.operands -> k < i -> ops[k]? = some ok -> ok.dst = some d -> dn k
 below : ∀ (o : Oper), ops[i]? = some o -> isE o = true -> ∀ (k : Nat) (ok : Oper), dn k -> ops[k]? = some ok -> isE ok = true -> k < i
theorem step_skip (hS : SimR P ops base dn r a w g) {i : Nat} (hR : Ready ops dn i) {o : Oper} (hi : ops[i]? = some o) (hw : wantedV ops r.env o = some false) :
  StepOk P ops base dn i { r with env := r.env.put o.dst .undef } a w g := by
 intro Q K hK
 refine wpOp_skip hi (wanted_sound hS.E hw) ?_
 obtain ⟨O, hE, hO1, hO2⟩ := put_any hS.W hS.E o.dst (v := .undef) (x := Go.undef) hS.noArg (fun l => by simp only [RelV])
 refine hK _ _ (g.owners O) ⟨hE, hS.B.owners hS.W hO2, hS.W.owners (fun b h => hS.W.noNil b (hO1 b _ h)) (fun b l h => ⟨l, hO1 b l h⟩), ?_, fun b k h => hS.noArg b k (hO1 b _ h), fun b h => hS.noRes b (hO1 b _ h), by rw [put_defers]; exact hS.defers, hS.tlen, hS.free, deps_also hS.deps (fun k o ok d => hR.deps k o ok d), fun j hj => hS.tnone j (fun h => hj (.inl h))⟩ (Ext.owners w g (fun b l h => ⟨l, hO1 b l h⟩))
 have hund : ∀ d, o.dst = some d -> (Env.put r.env o.dst .undef).at d = .undef := by
  intro d hd
  rw [hd]
  simp only [Env.put]
  rw [at_set]
  split
  ·rfl
  ·rename_i h
   simp only [true_and, Nat.not_lt] at h
   simp [Env.at, List.getElem?_eq_none h]
 exact hS.C.step hi hR.fresh hS.deps (fun s hs => getD_put_ne hs) (fun s hs h => by rw [at_put_ne hs]; exact h) (fun s hs => by rw [at_put_ne hs]) (fun k ids h => h)
  (fun id b hb _ => ⟨hb, fun _ => rfl⟩) (fun s d _ hd _ => .inl (hund d hd)) (fun t ad d id off _ hd _ _ _ => .inl (hund d hd))
theorem step_N (hS : SimR P ops base dn r a w g) {i : Nat} (hR : Ready ops dn i) {o : Oper} (hi : ops[i]? = some o) (hw : wantedV ops r.env o = some true) {v : V} {ld : Option Nat} (hv : evN P (rd r.env) r.sig o = some (v, ld)) (ll : List (Option Nat)) :
  StepOk P ops base dn i { r with env := r.env.put o.dst v, ll := ll } a w g := by
 intro Q K hK
 obtain ⟨x, w1, g1, hrun, hrel, hstep⟩ := evN_sound hS.E hS.B hS.W hv
 obtain ⟨hext, hW1, hO, hφ, hold⟩ := hstep.ext hS.W
 have hE1 := SimE.ofOld hS.W hS.E hext.later hO hold
 have hB1 := SimB.ofOld hS.W hS.B hext.later hO hφ hold
 have hA1 : ∀ b k, g1.O b ≠ some (.arg k) := by rw [hO]; exact hS.noArg
 refine wpOp_value hi (wanted_sound hS.E hw) hrun ?_
 obtain ⟨O, hE, hO1, hO2⟩ := put_any hW1 hE1 o.dst hA1 hrel
 refine hK _ _ (g1.owners O) ⟨hE, hB1.owners hW1 hO2, hW1.owners (fun b h => hW1.noNil b (hO1 b _ h)) (fun b l h => ⟨l, hO1 b l h⟩), ?_, fun b k h => hA1 b k (hO1 b _ h), fun b h => hS.noRes b (by rw [<- hO]; exact hO1 b _ h), by rw [put_defers]; exact hS.defers, hS.tlen,
  fun j oj h1 h2 h3 => by have := hS.free j oj h1 h2 h3; simp only [Gh.owners, hφ]; exact this, deps_also hS.deps (fun k o ok d => hR.deps k o ok d), fun j hj => hS.tnone j (fun h => hj (.inl h))⟩ (hext.trans (Ext.owners w1 g1 (fun b l h => ⟨l, hO1 b l h⟩)))
 have hgetd : ∀ (d : Nat), o.dst = some d -> (Env.put r.env o.dst v).at d = .undef \/ (a.put o.dst x).tmps.getD d undef = x := by
  intro d hd
  rw [hd]
  by_cases hlt : d < a.tmps.size
  ·right; rw [getD_put, if_pos ⟨rfl, hlt⟩]
  ·left
   simp only [Env.put]
   rw [at_set, if_neg (by rw [<- hS.E.size]; simp; omega)]
   simp only [Env.at, List.getD_eq_getElem?_getD]
   rw [List.getElem?_eq_none (by rw [<- hS.E.size]; omega)]
   rfl
 refine hS.C.step hi hR.fresh hS.deps (fun s hs => getD_put_ne hs) (fun s hs h => by rw [at_put_ne hs]; exact h) (fun s hs => by rw [at_put_ne hs]) (fun k ids h => h)
  (fun id b hb _ => ⟨by simp only [Gh.owners, hφ]; exact hb, fun off => by simp only [World.cell?, (hold b (hS.W.ltφ id b hb)).1]⟩) ?_ ?_
 ·intro s d hop hd hds
  rcases hgetd d hd with h | h
  ·exact .inl h
  ·right
   rw [h, getD_put_ne (by rw [hd]; simp; omega)]
   simp [execOp, hop] at hrun
   rw [<- hrun.1]; rfl
 ·intro t ad d id off hop hd hrd hadd hag
  rcases hgetd d hd with h | h
  ·exact .inl h
  ·right
   rw [h]
   have hrd0 : rd r.env ad = some (.ptr id off) := by
    cases ad with
    | tmp p =>
     simp only [rd, rdF] at hrd ⊢
     rw [at_put_ne (by rw [hd]; simp; intro hh; exact hadd (by rw [hh]))] at hrd
     exact hrd
    | const c => exact hrd
    | global q => exact hrd
    | func f => exact hrd
   simp only [evN, hop, hrd0] at hv
   split at hv
   ·rename_i id' off' b n hx ha hn
    simp only [Option.some.injEq, V.ptr.injEq] at hx
    obtain ⟨rfl, rfl⟩ := hx
    split at hv
    ·rename_i cs hs
     cases hp : partV b n off (cs.map V.plain) with
     | none => simp [hp] at hv
     | some y =>
      obtain ⟨u, k1, k2, k3⟩ := load_ptr hS.E hS.B hop hrd0 ha hn hs hp
      rw [hag] at ha
      simp only [Option.some.injEq] at ha
      obtain ⟨bl, k4, k5⟩ := k3 ha.symm
      rw [k1] at hrun
      simp only [Result.ok.injEq, Next.value.injEq] at hrun
      obtain ⟨rfl, rfl⟩ := hrun
      refine ⟨bl, by simp only [Gh.owners, hφ]; exact k4, k5⟩
    ·simp at hv
   ·rename_i cs hx _ _; simp at hx
   ·rename_i hx _ _; simp at hx
   ·simp at hv
theorem boxNo_lt {i j : Nat} {o : Oper} (hij : i < j) (ho : ops[i]? = some o) (ha : isAlloc o = true) : boxNo ops i < boxNo ops j := by
 have hlt := (List.getElem?_eq_some_iff.1 ho).1
 have key : boxNo ops (i + 1) = boxNo ops i + 1 := by
  unfold boxNo
  rw [List.take_add_one, ho]
  simp only [Option.toList_some, List.filter_append, List.length_append]
  rw [List.filter_cons_of_pos ha]
  rfl
 have mono : ∀ n m, n <= m -> boxNo ops n <= boxNo ops m := by
  intro n m h
  unfold boxNo
  exact List.Sublist.length_le ((List.take_sublist_take_left h).filter _)
 have := mono (i + 1) j hij
 omega
theorem boxNo_inj {i j : Nat} {oi oj : Oper} (hi : ops[i]? = some oi) (hj : ops[j]? = some oj) (hai : isAlloc oi = true) (haj : isAlloc oj = true) (h : boxNo ops i = boxNo ops j) : i = j := by
 rcases Nat.lt_trichotomy i j with hlt | heq | hgt
 ·have := boxNo_lt hlt hi hai; omega
 ·exact heq
 ·have := boxNo_lt hgt hj haj; omega
theorem cellsOf_one : ∀ {xs : List Value} {vs : List V}, cellsOf xs = some vs -> ∀ (k : Nat) (x : Value), xs[k]? = some x -> x.oneCell' = true
 | [], vs, h, k, x, hk => by simp at hk
 | y :: ys, vs, h, k, x, hk => by
  simp only [cellsOf] at h
  split at h
  ·rename_i u us h1 h2
   cases k with
   | zero =>
    simp at hk; subst hk
    have := cellOf_rel (w := default) (g := ⟨fun _ => none, fun _ => none, fun _ => none⟩) h1 .nil
    exact this.2.2
   | succ k => exact cellsOf_one h2 k x (by simpa using hk)
  ·simp at h
theorem newBox (hS : SimR P ops base dn r a w g) {i : Nat} (hR : Ready ops dn i) {o : Oper} (hi : ops[i]? = some o) (hal : isAlloc o = true) (htl : r.tl[i]? = some none) {cs : List V} {c : Array Value} {el : TypeId} (hcs : RelL w g cs c.toList)
  (hone : ∀ (k : Nat) (x : Value), c[k]? = some x -> x.oneCell' = true) (hK : ∀ a' w' g', SimR P ops base (also dn i) { r with env := r.env.put o.dst (.ptr (base + boxNo ops i) 0), sig := r.sig.set (base + boxNo ops i) (some cs), tl := r.tl.set i (some [base + boxNo ops i]) } a' w' g' -> Ext w g w' g' -> K a' w')
  (hnl : ∀ t ad, o.op ≠ .load t ad) (hnm : ∀ x, o.op ≠ .move x) : K (a.put o.dst (.pointer (some ⟨w.heap.size, 0, none⟩))) (w.alloc (.cells c el (0, 0))) := by
 obtain ⟨hlt, hnone⟩ := hS.free i o hi hal htl
 generalize hid : base + boxNo ops i = id at *
 let w1 := w.alloc (.cells c el (0, 0))
 let g1 : Gh := { g with φ := fun k => if k = id then some w.heap.size else g.φ k }
 have hold : ∀ b, b < w.heap.size -> w1.heap[b]? = w.heap[b]? := by
  intro b hb
  show (w.heap.push _)[b]? = _
  rw [Array.getElem?_push, if_neg (by omega)]
 have hnew : w1.heap[w.heap.size]? = some (.cells c el (0, 0)) := by
  show (w.heap.push _)[w.heap.size]? = _
  simp
 have hkeep : Keeps w g.F w1 g1.F := by
  intro b lim hb
  refine ⟨lim, hb, Nat.le_refl _, fun o' _ => ?_⟩
  exact World.cell?_alloc_old _ _ _ (by have := hS.W.lt b lim hb; simp; omega)
 have hl : Later w g w1 g1 := ⟨hkeep, fun k b hb => by
  show (if k = id then some w.heap.size else g.φ k) = some b
  rw [if_neg (fun h => by subst h; rw [hnone] at hb; cases hb)]; exact hb⟩
 have hroom : ∀ l b, g.O b = some l -> g1.O b = some l /\ g1.F b = g.F b /\ w1.heap[b]? = w.heap[b]? := by
  intro l b hb
  have hF := hS.W.own b l hb
  cases hFb : g.F b with
  | none => simp [hFb] at hF
  | some lim => exact ⟨hb, rfl, hold b (hS.W.lt b lim hFb)⟩
 have hW1 : WF P w1 g1 := by
  refine ⟨fun b lim hb => ?_, fun k b hb => ?_, hS.W.noNil, hS.W.own, hS.W.globs (by show _ <= (w.alloc _).heap.size; simp) (fun b hb => hold b (hS.W.glob b hb).1) (fun b hb => (hS.W.glob b hb).2.2.1) (fun b hb k hk => by
   change (if k = id then some w.heap.size else g.φ k) = some b at hk
   split at hk
   ·simp only [Option.some.injEq] at hk; have := (hS.W.glob b hb).1; omega
   ·exact (hS.W.glob b hb).2.2.2 k hk)⟩
  ·have := hS.W.lt b lim hb
   show b < (w.alloc _).heap.size
   simp; omega
  ·show b < (w.alloc _).heap.size
   simp only [World.size_alloc]
   change (if k = id then some w.heap.size else g.φ k) = some b at hb
   split at hb
   ·simp only [Option.some.injEq] at hb; omega
   ·have := hS.W.ltφ k b hb; omega
 have hE1 : SimE w1 g1 r.env a := ⟨hS.E.size, fun s hs => RelV.later hl hS.W.noNil (fun b hb => hroom _ b hb) (hS.E.at_ s hs)⟩
 have hB1 : SimB w1 g1 (r.sig.set id (some cs)) := by
  refine ⟨fun k b hb => ?_, fun k k' b hb hb' => ?_, fun k b hb => ?_⟩
  ·change (if k = id then some w.heap.size else g.φ k) = some b at hb
   split at hb
   ·rename_i hk
    subst hk
    simp only [Option.some.injEq] at hb
    subst hb
    refine ⟨cs, c, el, by simp [hlt], hnew, by have := hcs.length; simp at this; omega, fun j v x hv hx => ⟨?_, hone j x hx⟩⟩
    obtain ⟨y, hy, hr⟩ := hcs.get hv
    have : x = y := by simpa [hx] using hy
    subst this
    exact RelV.ofNil hW1.noNil (RelV.later hl hS.W.noNil (fun b hb => hroom _ b hb) hr)
   ·rename_i hk
    obtain ⟨cs', c', el', h1, h2, h3, h4⟩ := hS.B.box k b hb
    refine ⟨cs', c', el', by rw [List.getElem?_set_ne (fun h => hk h.symm)]; exact h1, by rw [hold b (hS.W.ltφ k b hb)]; exact h2, h3, fun j v x hv hx => ⟨RelV.later hl hS.W.noNil (fun b hb => hroom _ b hb) (h4 j v x hv hx).1, (h4 j v x hv hx).2⟩⟩
  ·change (if k = id then some w.heap.size else g.φ k) = some b at hb
   change (if k' = id then some w.heap.size else g.φ k') = some b at hb'
   split at hb
   ·rename_i hk
    simp only [Option.some.injEq] at hb
    split at hb'
    ·rename_i hk'; rw [hk, hk']
    ·have := hS.W.ltφ k' b hb'; omega
   ·split at hb'
    ·simp only [Option.some.injEq] at hb'
     have := hS.W.ltφ k b hb; omega
    ·exact hS.B.inj k k' b hb hb'
  ·change (if k = id then some w.heap.size else g.φ k) = some b at hb
   split at hb
   ·simp only [Option.some.injEq] at hb
    show g.F b = none
    cases hFb : g.F b with
    | none => rfl
    | some lim => have := hS.W.lt b lim hFb; omega
   ·exact hS.B.apart k b hb
 have hext : Ext w g w1 g1 := by
  refine ⟨by show w.heap.size <= (w.alloc _).heap.size; simp, hkeep, fun b hb _ _ => ⟨hold b hb, rfl⟩, rfl, rfl, rfl, hl.box, fun k b hb => ?_, fun b l hb => .inr ⟨l, hb⟩⟩
  change (if k = id then some w.heap.size else g.φ k) = some b at hb
  split at hb
  ·simp only [Option.some.injEq] at hb; left; omega
  ·exact .inr ⟨k, hb⟩
 have hrel : ∀ l, RelV w1 g1 l (.ptr id 0) (.pointer (some ⟨w.heap.size, 0, none⟩)) := by
  intro l
  simp only [RelV]
  exact ⟨w.heap.size, by show (if id = id then some w.heap.size else g.φ id) = _; simp, rfl⟩
 obtain ⟨O, hE, hO1, hO2⟩ := put_any hW1 hE1 o.dst (x := .pointer (some ⟨w.heap.size, 0, none⟩)) hS.noArg hrel
 refine hK _ _ (g1.owners O) ⟨hE, hB1.owners hW1 hO2, hW1.owners (fun b h => hW1.noNil b (hO1 b _ h)) (fun b l h => ⟨l, hO1 b l h⟩), ?_, fun b k h => hS.noArg b k (hO1 b _ h), fun b h => hS.noRes b (hO1 b _ h), by rw [put_defers]; exact hS.defers, by simpa using hS.tlen, ?_, deps_also hS.deps (fun k o ok d => hR.deps k o ok d), fun j hj ids h => by simp only at h; rw [List.getElem?_set_ne (fun hh => hj (.inr hh.symm))] at h; exact hS.tnone j (fun h => hj (.inl h)) ids h⟩ (hext.trans (Ext.owners w1 g1 (fun b l h => ⟨l, hO1 b l h⟩)))
 ·refine hS.C.step hi hR.fresh hS.deps (fun s hs => getD_put_ne hs) (fun s hs h => by rw [at_put_ne hs]; exact h) (fun s hs => by rw [at_put_ne hs]) (fun k ids h => ?_) (fun k b hb _ => ⟨hl.box k b hb, fun off => ?_⟩) (fun s d hop => absurd hop (hnm _)) (fun t ad d k off hop => absurd hop (hnl _ _))
  ·simp only
   rw [List.getElem?_set_ne]
   ·exact h
   ·intro hh; subst hh; rw [htl] at h; cases h
  ·have := hold b (hS.W.ltφ k b hb)
   show w1.cell? _ = _
   simp only [World.cell?, this]
 ·intro j oj h1 h2 h3
  simp only at h3 ⊢
  rw [List.getElem?_set] at h3
  split at h3
  ·split at h3 <;> simp at h3
  ·rename_i hne
   obtain ⟨k1, k2⟩ := hS.free j oj h1 h2 h3
   refine ⟨by simpa using k1, ?_⟩
   show (if base + boxNo ops j = id then some w.heap.size else g.φ (base + boxNo ops j)) = none
   rw [if_neg]
   ·exact k2
   ·intro hh
    rw [<- hid] at hh
    exact hne (boxNo_inj hi h1 hal h2 (by omega))
theorem step_alloc (hS : SimR P ops base dn r a w g) {i : Nat} (hR : Ready ops dn i) {o : Oper} (hi : ops[i]? = some o) (hw : wantedV ops r.env o = some true) {t : TypeId} (hop : o.op = .alloc t) {z : Value} (hz : tyZero P t = some z) {cs : List V} (hcs : cellsOf z.cells.toList = some cs) (htl : r.tl[i]? = some none) :
  StepOk P ops base dn i { r with env := r.env.put o.dst (.ptr (base + boxNo ops i) 0), sig := r.sig.set (base + boxNo ops i) (some cs), tl := r.tl.set i (some [base + boxNo ops i]) } a w g := by
 intro Q K hK
 have hzr : (zeroValue t).run P w = .ok z w := by
  unfold tyZero at hz
  cases hi : P.info? t with
  | none => simp [hi] at hz
  | some i => simp [hi] at hz; simp [zeroValue, typeInfo, hi, hz]
 refine wpOp_value hi (wanted_sound hS.E hw) (x := .pointer (some ⟨w.heap.size, 0, none⟩)) (w1 := w.alloc (.cells z.cells t (0, 0))) ?_ ?_
 ·simp [execOp, hop, Instr.alloc, hzr, newVar, newRow]
 ·exact newBox hS hR hi (by simp [isAlloc, hop]) htl (cellsOf_rel hcs) (fun k x hx => cellsOf_one hcs k x (by simpa using hx)) hK (by simp [hop]) (by simp [hop])
theorem one_oneCell {l : Loc} {v : V} {x : Value} (h : RelV w g l v x) (h1 : v.one = true) : x.oneCell' = true := by
 cases v with
 | undef => simp [V.one] at h1
 | any => simp [V.one] at h1
 | agg => simp [V.one] at h1
 | tup => simp [V.one] at h1
 | nil => simp only [RelV] at h; subst h; rfl
 | t y => simp only [RelV] at h; exact h.oneCell
 | own sz es => simp only [RelV] at h; rcases h with ⟨_, rfl | ⟨_, rfl⟩⟩ | ⟨_, _, _, _, rfl, _⟩ <;> rfl
 | ptr => simp only [RelV] at h; obtain ⟨_, _, rfl⟩ := h; rfl
 | aptr => simp only [RelV] at h; obtain ⟨_, _, rfl⟩ := h; rfl
 | cptr => simp only [RelV] at h; obtain ⟨_, _, _, rfl, _⟩ := h; rfl
 | fn => simp only [RelV] at h; obtain ⟨_, rfl, _⟩ := h; rfl
theorem step_box (hS : SimR P ops base dn r a w g) {i : Nat} (hR : Ready ops dn i) {o : Oper} (hi : ops[i]? = some o) (hw : wantedV ops r.env o = some true) {t : TypeId} {x : Operand} (hop : o.op = .box t x) {v : V} (hv : rd r.env x = some v) (h1 : v.cells.all V.one = true) (htl : r.tl[i]? = some none) :
  StepOk P ops base dn i { r with env := r.env.put o.dst (.ptr (base + boxNo ops i) 0), sig := r.sig.set (base + boxNo ops i) (some (v.cells.map V.plain)), tl := r.tl.set i (some [base + boxNo ops i]) } a w g := by
 intro Q K hK
 obtain ⟨hrel, hst⟩ := rd_rel hS.E hv .nil
 have hcl := cells_rel hrel hst (by cases v <;> first | rfl | simp [V.cells, V.one] at h1)
 refine wpOp_value hi (wanted_sound hS.E hw) (x := .pointer (some ⟨w.heap.size, 0, none⟩)) (w1 := w.alloc (.cells (a.eval x).cells t (0, 0))) ?_ ?_
 ·simp [execOp, hop, Instr.box, newVar, newRow]
 ·refine newBox hS hR hi (by simp [isAlloc, hop]) htl hcl.plain (fun k y hy => ?_) hK (by simp [hop]) (by simp [hop])
  have hk : k < v.cells.length := by
   rw [hcl.length]; simpa using (Array.getElem?_eq_some_iff.1 hy).1
  obtain ⟨z, hz, hr⟩ := hcl.get (List.getElem?_eq_getElem hk)
  have : y = z := by simpa [hy] using hz
  subst this
  exact one_oneCell hr (List.all_eq_true.1 h1 _ (List.getElem_mem hk))
end
end Go.Eng
