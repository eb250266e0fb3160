/- The engine, thirteenth part: the step of an append; operands handed to a call; the callee's own view. -/
import Derived.Test.YtimkclpogbfciaaDoorEngX
set_option linter.unusedVariables false
set_option linter.unusedSimpArgs false
namespace Go.Eng
open Go.RowKit
section
variable {P : Program} {w w' : World} {g g' : Gh} {e e' : Env} {a a' : Act} {sig sig' : Sig} {ops : List Oper} {base : Nat} {dn : Nat -> Prop} {r r' : R}
theorem locOf_nil {i : Nat} {tl : List (Option (List Nat))} {x : Operand} {sz : Nat} {es : List T} (h : locOf P ops base i e.at sig tl x = some (.nil, sz, es)) : sz = 0 /\ es = [] := by
 unfold locOf at h
 split at h
 ·simp only [Option.some.injEq, Prod.mk.injEq, true_and] at h; exact ⟨h.1.symm, h.2.symm⟩
 ·split at h
  ·simp only [Option.some.injEq, Prod.mk.injEq, true_and] at h; exact ⟨h.1.symm, h.2.symm⟩
  ·simp at h
  ·split at h
   ·split at h
    ·split at h
     ·split at h <;> simp at h
     ·simp at h
    ·split at h
     ·split at h
      ·split at h
       ·split at h <;> simp at h
       ·simp at h
      ·simp at h
     ·simp at h
    ·simp at h
   ·simp at h
  ·simp at h
 ·simp at h
theorem after_brought (hS : SimR P ops base dn r a w g) {i : Nat} (hR : Ready ops dn i) {o : Oper} (hi : ops[i]? = some o) (hna : isAlloc o = false) (hnl : ∀ t ad, o.op ≠ .load t ad) (hnm : ∀ x, o.op ≠ .move x)
  {v0 : V} {x0 : Value} (hund : ∀ s, e'.at s = .undef ↔ r.env.at s = .undef) (hplain : ∀ s, (e'.at s).plain = (r.env.at s).plain) (hsl : sig'.length = r.sig.length)
  {v : V} {u : Value} {w1 : World} {g1 : Gh} {sig1 : Sig} (hB : Brought P w g 0 e' sig' a v u w1 g1 sig1) (hsl1 : sig1.length = sig'.length) (hφ1 : g1.φ = g.φ)
  {tl' : List (Option (List Nat))} (htl : tl' = r.tl \/ ∃ ids, tl' = r.tl.set i (some ids) /\ ∀ id b, g.φ id = some b -> id ∉ ids -> w1.heap[b]? = w.heap[b]?) (hsame : tl' = r.tl -> ∀ id b, g.φ id = some b -> w1.heap[b]? = w.heap[b]?) :
  ∃ g2, SimR P ops base (also dn i) { r with env := e'.put o.dst v, sig := sig1, tl := tl' } (a.put o.dst u) w1 g2 /\ Ext w g w1 g2 := by
 obtain ⟨O, hE, hO1, hO2, hO3, hO4, hO5⟩ := put_arg hB.W hB.E o.dst hB.arg hB.rel
 have hi' : i < r.tl.length := by rw [hS.tlen]; exact (List.getElem?_eq_some_iff.1 hi).1
 have htn := hS.tnone i hR.fresh
 refine ⟨g1.owners O, ⟨hE, hB.B.owners hB.W hO2, hB.W.owners (fun b h => hB.W.noNil b (hO5 b h)) hO1, ?_, hO3, fun b h => hB.res b (hO4 b h), by rw [put_defers]; exact hS.defers, ?_, ?_, deps_also hS.deps (fun k o ok d => hR.deps k o ok d), ?_⟩, hB.ext.trans (Ext.owners w1 g1 hO1)⟩
 ·refine hS.C.step hi hR.fresh hS.deps (fun s hs => getD_put_ne hs) (fun s hs h => by rw [at_put_ne hs]; exact (hund s).2 h) (fun s hs => by rw [at_put_ne hs]; exact hplain s) (fun k ids h => ?_)
   (fun id b hb hids => ⟨by simp only [Gh.owners, hφ1]; exact hb, fun off => ?_⟩) (fun s d h => absurd h (hnm _)) (fun t ad d id off h => absurd h (hnl _ _))
  ·rcases htl with h' | ⟨ids', h', _⟩
   ·rw [h']; exact h
   ·rw [h', List.getElem?_set_ne]
    ·exact h
    ·intro hh; subst hh; exact htn ids h
  ·have : w1.heap[b]? = w.heap[b]? := by
    rcases htl with h' | ⟨ids', h', hk⟩
    ·exact hsame h' id b hb
    ·exact hk id b hb (hids i ids' (by rw [h']; simp [hi']))
   simp only [World.cell?, this]
 ·rcases htl with h' | ⟨ids', h', _⟩
  ·rw [h']; exact hS.tlen
  ·rw [h']; simpa using hS.tlen
 ·intro j oj h1 h2 h3
  simp only at h3 ⊢
  have h3' : r.tl[j]? = some none := by
   rcases htl with h' | ⟨ids', h', _⟩
   ·rw [h'] at h3; exact h3
   ·rw [h', List.getElem?_set] at h3
    split at h3
    ·rename_i hij; subst hij; rw [hi] at h1; simp only [Option.some.injEq] at h1; subst h1; rw [hna] at h2; cases h2
    ·exact h3
  have := hS.free j oj h1 h2 h3'
  refine ⟨by rw [hsl1, hsl]; exact this.1, by simp only [Gh.owners, hφ1]; exact this.2⟩
 ·intro j hj ids h
  simp only at h
  have hj' : ¬ dn j := fun h => hj (.inl h)
  rcases htl with h' | ⟨ids', h', _⟩
  ·rw [h'] at h; exact hS.tnone j hj' ids h
  ·rw [h', List.getElem?_set_ne (fun hh => hj (.inr hh.symm))] at h
   exact hS.tnone j hj' ids h
theorem step_append (hS : SimR P ops base dn r a w g) {i : Nat} (hR : Ready ops dn i) {o : Oper} (hi : ops[i]? = some o) (hw : wantedV ops r.env o = some true) {c : Call} (hop : o.op = .call c) (hcl : c.callee = .builtin .append) {x y : Operand} (hxy : c.args.toList = [x, y]) {t : TypeId} (htt : c.argTypes.toList = [t, t])
  {l : Loc} {sz : Nat} {es ys : List T} (hl : locOf P ops base i r.env.at r.sig r.tl x = some (l, sz, es)) (hy : (rd r.env y).bind V.list = some ys) {el : TypeId} (ht : tyElem P t = some el) {n : Nat} (hn : tySize P el = some n) (hsz : sz = n \/ sz = 0) (hp : 0 < n)
  (hb : bytesOk P el (es.length + ys.length) = true) (hys : ys.all (fun z => z.cells.length == n) = true) (hz : (tyZero P el).any (fun z => z.cells.size == n) = true) :
  StepOk P ops base dn i { r with env := Env.put (consume r.env r.sig l es).1 o.dst (.own n (es ++ ys)), sig := (consume r.env r.sig l es).2 } a w g := by
 intro Q K hK
 have hopnds : x ∈ o.op.operands := by
  rw [hop]; simp only [Op.operands, Call.operands, hcl]
  have : x ∈ c.args.toList := by rw [hxy]; simp
  simpa using this
 have hhome := locOf_sound hS.E hS.B hS.C (handOn_deps hR hi hopnds) (hR.below o hi (by simp [isE, hop, hcl])) hl
 have hH : ∃ g1, Handed P w g 0 r.env r.sig a (if l = .nil then .nil else .own sz es) (a.eval x) g1 (consume r.env r.sig l es).1 (consume r.env r.sig l es).2 /\ ((es = [] /\ a.eval x = .slice none 0 0) \/ RelV w g1 (.arg 0) (.own n es) (a.eval x)) := by
  by_cases hln : l = .nil
  ·subst hln
   obtain ⟨rfl, rfl⟩ := locOf_nil hl
   refine ⟨g, ?_, .inl ⟨rfl, hhome⟩⟩
   rw [if_pos rfl]
   exact Handed.refl hS.E hS.B hS.W (fun b => hS.noArg b 0) (fun l' => by simp only [RelV]; exact hhome)
  ·have h := consume_sound hS.E hS.B hS.W (fun b => hS.noArg b 0) hln hhome
   refine ⟨_, by rw [if_neg hln]; exact h, ?_⟩
   have hrel := h.rel
   rcases hsz with rfl | rfl
   ·exact .inr hrel
   ·simp only [RelV] at hrel
    rcases hrel with h0 | ⟨_, _, _, _, _, _, hR0, _⟩
    ·exact .inr (by simp only [RelV]; exact .inl h0)
    ·exact absurd hR0.pos (by omega)
 obtain ⟨g1, hH, hx⟩ := hH
 cases hry : rd r.env y with
 | none => simp [hry] at hy
 | some vy =>
 simp [hry] at hy
 have hyr : RT w g1.F (.list ys) (a.eval y) := by
  have := ((rd_rel hS.E hry .nil).1).list hy
  rw [hH.same.1]; exact this
 obtain ⟨u, w1, g2, hrun, hB, hnil, hbox⟩ := append_run (P := P) (ty := o.type) hH.E hH.B hH.W (hH.arg hS.noArg) (hH.noRes hS.noRes) ht hn hp hb (sized_all hys) hz hyr hx
 have hargs : c.args = #[x, y] := by apply Array.ext'; simpa using hxy
 have htys : c.argTypes = #[t, t] := by apply Array.ext'; simpa using htt
 have hexec : (execOp a.eval o).run P w = .ok (.value u) w1 := by
  simp only [execOp, hop, resolve, hcl, hargs, htys]
  simp [invoke, builtin, hrun]
 refine wpOp_value hi (wanted_sound hS.E hw) hexec ?_
 have hB' : Brought P w g 0 (consume r.env r.sig l es).1 (consume r.env r.sig l es).2 a (.own n (es ++ ys)) u w1 g2 (consume r.env r.sig l es).2 := by
  exact ⟨hB.E, hB.B, hB.W, hB.rel, hH.ext.trans hB.ext, hB.arg, hB.res, by rw [hB.φ, hH.same.2]⟩
 obtain ⟨g3, hS3, hext⟩ := after_brought (v0 := .undef) (x0 := Go.undef) hS hR hi (by simp [isAlloc, hop]) (by simp [hop]) (by simp [hop]) hH.undef hH.plain hH.sigLen hB' rfl (by rw [hB.φ, hH.same.2]) (.inl rfl) (fun _ id b hb => by
  exact hbox id b (by rw [hH.same.2]; exact hb))
 exact hK _ _ g3 hS3 hext
end
end Go.Eng
