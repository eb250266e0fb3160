/- The engine: of a drawn region: what an operation that turns nothing depends on. -/
import Derived.Test.YtimkclpogbfciaaDoorEngE
set_option linter.unusedVariables false
set_option linter.unusedSimpArgs false
namespace Go.Eng
open Go.RowKit
section
variable {P : Program} {e e' : Env} {sig sig' : Sig} {ops : List Oper} {base : Nat} {o : Oper}
theorem rdV_congr {ρ ρ' : Operand -> Option V} {x : Operand} (h : ρ' x = ρ x) : rdV ρ' x = rdV ρ x := by simp only [rdV, h]
theorem isSc_congr {ρ ρ' : Operand -> Option V} {x : Operand} (h : ρ' x = ρ x) : isSc ρ' x = isSc ρ x := by simp only [isSc, h]
theorem scalar_congr {ρ ρ' : Operand -> Option V} (hs : ∀ cs b, o.op ≠ .select cs b) (h : ∀ x ∈ o.op.operands, ρ' x = ρ x) : scalar P ρ' o = scalar P ρ o := by
 unfold scalar
 have h1 : o.op.operands.toList.all (isSc ρ') = o.op.operands.toList.all (isSc ρ) := by
  apply Bool.eq_iff_iff.2
  simp only [List.all_eq_true]
  constructor
  ·intro hh x hx; rw [<- isSc_congr (h x (by simpa using hx))]; exact hh x hx
  ·intro hh x hx; rw [isSc_congr (h x (by simpa using hx))]; exact hh x hx
 have h2 : execOp (rdV ρ') o = execOp (rdV ρ) o := execOp_congr o hs fun x hx => rdV_congr (h x hx)
 rw [h1, h2]
theorem rdParts_congr {ρ ρ' : Operand -> Option V} : ∀ {ps : List (Nat × Operand)}, (∀ x ∈ ps.map (·.2), ρ' x = ρ x) -> rdParts ρ' ps = rdParts ρ ps
 | [], _ => rfl
 | (i, x) :: r, h => by
  simp only [rdParts]
  rw [h x (by simp), rdParts_congr (fun y hy => h y (by simp only [List.map_cons, List.mem_cons]; exact .inr hy))]
theorem rdAll_congr {ρ ρ' : Operand -> Option V} : ∀ {ps : List Operand}, (∀ x ∈ ps, ρ' x = ρ x) -> rdAll ρ' ps = rdAll ρ ps
 | [], _ => rfl
 | x :: r, h => by
  simp only [rdAll]
  rw [h x (by simp), rdAll_congr (fun y hy => h y (by simp [hy]))]
theorem intOp_congr {ρ ρ' : Operand -> Option V} {x : Option Operand} (h : ∀ y, x = some y -> ρ' y = ρ y) : intOp ρ' x = intOp ρ x := by
 cases x with
 | none => rfl
 | some y => simp only [intOp, h y rfl]
def plainAt (sig : Sig) (id : Nat) : Option (List V) :=
 match sig[id]? with
 | some (some cs) => some (cs.map V.plain)
 | _ => none
theorem evN_congr {ρ ρ' : Operand -> Option V} {v : V} {ld : Option Nat} (h : evN P ρ sig o = some (v, ld)) (hr : ∀ x ∈ o.op.operands, ρ' x = ρ x) (hs : ∀ id, ld = some id -> plainAt sig' id = plainAt sig id) : evN P ρ' sig' o = some (v, ld) := by
 have hsc : ∀ (hs : ∀ cs b, o.op ≠ .select cs b), scalar P ρ' o = scalar P ρ o := fun hs => scalar_congr hs hr
 unfold evN at h ⊢
 cases hop : o.op with
 | load t x =>
  simp only [hop, Op.operands] at h hr ⊢
  rw [hr x (by simp)]
  split at h
  ·rename_i id off ag n hx ha hn
   split at h
   ·rename_i cs hcs
    cases hp : partV ag n off (cs.map V.plain) with
    | none => simp [hp] at h
    | some y =>
     simp [hp] at h
     obtain ⟨rfl, rfl⟩ := h
     have := hs id rfl
     simp only [plainAt, hcs] at this
     split at this
     ·rename_i cs' hcs'
      simp only [Option.some.injEq] at this
      simp only [hcs', this, hp]; rfl
     ·cases this
   ·cases h
  ·rename_i cs ag n hx ha hn
   exact h
  ·rename_i id off st _ k ag n hx ha hn
   split at h
   ·rename_i cs hcs
    cases hp : partV ag n (off + k.toNat * st) (cs.map V.plain) with
    | none => simp [hp] at h
    | some y =>
     simp [hp] at h
     obtain ⟨rfl, rfl⟩ := h
     have := hs id rfl
     simp only [plainAt, hcs] at this
     split at this
     ·rename_i cs' hcs'
      simp only [Option.some.injEq] at this
      simp only [hcs', this, hp]; rfl
     ·cases this
   ·cases h
  ·cases h
 | slice t x lo hi mx =>
  simp only [hop] at h hr ⊢
  have e1 := hr x (by simp [Op.operands])
  have e2 : intOp ρ' lo = intOp ρ lo := intOp_congr fun y hy => hr y (by simp [Op.operands, hy])
  have e3 : intOp ρ' hi = intOp ρ hi := intOp_congr fun y hy => hr y (by simp [Op.operands, hy])
  have e4 : intOp ρ' mx = intOp ρ mx := intOp_congr fun y hy => hr y (by simp [Op.operands, hy])
  rw [e1, e2, e3, e4, hsc (by simp [hop])]
  exact h
 | build t ps =>
  simp only [hop] at h hr ⊢
  rw [rdParts_congr (ps := ps.toList) (fun x hx => hr x (by simpa [Op.operands] using hx))]
  exact h
 | buildSlice t n ps =>
  simp only [hop] at h hr ⊢
  rw [rdParts_congr (ps := ps.toList) (fun x hx => hr x (by simpa [Op.operands] using hx))]
  exact h
 | makeFunc fn first caps =>
  simp only [hop] at h hr ⊢
  rw [rdAll_congr (ps := caps.toList) (fun x hx => hr x (by simp [Op.operands]; exact .inr (by simpa using hx)))]
  exact h
 | call c =>
  simp only [hop] at h hr ⊢
  have harg : (c.args[0]?).bind ρ' = (c.args[0]?).bind ρ := by
   cases ha : c.args[0]? with
   | none => rfl
   | some x => exact hr x (by simp [Op.operands, Call.operands]; exact .inr (Array.mem_of_getElem? ha))
  rw [harg, hsc (by simp [hop])]
  exact h
 | select cs b => simp only [hop] at h; cases h
 | binOp b t x y c =>
  have e1 := hr x (by simp [hop, Op.operands])
  have e2 := hr y (by simp [hop, Op.operands])
  cases b <;> (simp only [hop] at h ⊢; simp only [e1, e2, hsc (by simp [hop])]; exact h)
 | index t x i =>
  have e1 := hr x (by simp [hop, Op.operands])
  have e2 := hr i (by simp [hop, Op.operands])
  simp only [hop] at h ⊢
  rw [e1, e2, hsc (by simp [hop])]
  exact h
 | indexAddr t x i =>
  have e1 := hr x (by simp [hop, Op.operands])
  have e2 := hr i (by simp [hop, Op.operands])
  simp only [hop] at h ⊢
  rw [e1, e2]
  exact h
 | makeSlice t x i =>
  have e1 := hr x (by simp [hop, Op.operands])
  have e2 := hr i (by simp [hop, Op.operands])
  simp only [hop] at h ⊢
  rw [e1, e2]
  exact h
 | pick c x y =>
  have e0 := hr c (by simp [hop, Op.operands])
  have e1 := hr x (by simp [hop, Op.operands])
  have e2 := hr y (by simp [hop, Op.operands])
  simp only [hop] at h ⊢
  rw [e0, e1, e2]
  exact h
 | move x | extract x _ | nilCheck x | field _ x _ | fieldAddr _ x _ =>
  have e1 := hr x (by simp [hop, Op.operands])
  simp only [hop] at h ⊢
  rw [e1]
  exact h
 | convert _ _ x =>
  have e1 := hr x (by simp [hop, Op.operands])
  simp only [hop] at h ⊢
  rw [e1, hsc (by simp [hop])]
  exact h
 | unOp _ _ x | makeInterface _ x =>
  simp only [hop] at h ⊢
  rw [hsc (by simp [hop])]
  exact h
 | _ => simp only [hop] at h; cases h
def quiet (P : Program) (ops : List Oper) (base i : Nat) (o : Oper) (e : Env) (sig : Sig) (t : Option (Option (List Nat))) : Option (V × Option (List V) × Option (Option Nat)) :=
 match wantedV ops e o with
 | none => none
 | some false => some (.undef, none, none)
 | some true =>
  match o.op with
  | .alloc ty =>
   (match (tyZero P ty).bind (fun z => cellsOf z.cells.toList), t with
    | some cs, some none => some (.ptr (base + boxNo ops i) 0, some cs, none)
    | _, _ => none)
  | .box ty x =>
   (match rd e x, tySize P ty, t with
    | some v, some n, some none => if v.cells.length = n /\ v.cells.all V.one then some (.ptr (base + boxNo ops i) 0, some (v.cells.map V.plain), none) else none
    | _, _, _ => none)
  | _ => (evN P (rd e) sig o).map fun q => (q.1, none, some q.2)
structure Wr where
 dst : Option Nat
 v : V
 box : Option (Nat × Option (List V))
 at_ : Nat
 t : Option (Option (List Nat))
 l : Option (Option Nat)
def Wr.on (q : Wr) (r : R) : R :=
 { env := r.env.put q.dst q.v, sig := match q.box with | some (id, cs) => r.sig.set id cs | none => r.sig,
   tl := match q.t with | some t => r.tl.set q.at_ t | none => r.tl, ll := match q.l with | some l => r.ll.set q.at_ l | none => r.ll }
def wrOf (ops : List Oper) (base i : Nat) (o : Oper) (q : V × Option (List V) × Option (Option Nat)) : Wr :=
 { dst := o.dst, v := q.1, box := q.2.1.map fun cs => (base + boxNo ops i, some cs), at_ := i, t := q.2.1.map fun _ => some [base + boxNo ops i], l := q.2.2 }
theorem step_quietly {call : CallF} {i : Nat} (hi : ops[i]? = some o) (hE : isE o = false) (r : R) : step P call ops base i r = (quiet P ops base i o r.env r.sig r.tl[i]?).map (fun q => (wrOf ops base i o q).on r) := by
 unfold step quiet
 simp only [hi]
 cases hw : wantedV ops r.env o with
 | none => rfl
 | some b =>
  cases b with
  | false => rfl
  | true =>
   simp only
   have hN : (match evN P (rd r.env) r.sig o with | some (v, ld) => some { r with env := r.env.put o.dst v, ll := r.ll.set i ld } | none => none) = ((evN P (rd r.env) r.sig o).map fun q => (q.1, none, some q.2)).map (fun q => (wrOf ops base i o q).on r) := by
    cases evN P (rd r.env) r.sig o with
    | none => rfl
    | some q => rfl
   cases hop : o.op with
   | alloc ty =>
    simp only
    split <;> rename_i h1 <;> simp only [Option.map_some, Option.map_none, wrOf, Wr.on, *]
   | box ty x =>
    cases hrd : rd r.env x with
    | none => simp [hrd]
    | some v =>
     cases hn : tySize P ty with
     | none => simp [hrd, hn]
     | some n =>
      cases htl : r.tl[i]? with
      | none => simp [hrd, hn, htl]
      | some t =>
       cases t with
       | some ids => simp [hrd, hn, htl]
       | none =>
        by_cases hc : v.cells.length = n /\ v.cells.all V.one = true
        ·simp only [hrd, hn, htl, if_pos hc, wrOf, Wr.on, Option.map_some]
        ·simp only [hrd, hn, htl, if_neg hc, Option.map_none]
   | assign x => simp [isE, hop] at hE
   | store t a x => simp [isE, hop] at hE
   | call c =>
    simp only
    cases hc : c.callee with
    | value f => simp [isE, hop, hc] at hE
    | invoke a b => simp [isE, hop, hc] at hE
    | builtin b => cases b <;> first | exact hN | simp [isE, hop, hc] at hE
   | _ => exact hN
def sameTruth (e e' : Env) (d : Nat) : Prop := (∀ b, e[d]? = some (.t (.sc (.bool b))) -> e'[d]? = some (.t (.sc (.bool b)))) /\ (e[d]? = some .undef -> e'[d]? = some .undef)
theorem wantedV_congr {b : Bool} (h : wantedV ops e o = some b) (hg : ∀ j want d, o.guard = some (j, want) -> (ops[j]?).bind (·.dst) = some d -> sameTruth e e' d) : wantedV ops e' o = some b := by
 unfold wantedV at h ⊢
 cases hgd : o.guard with
 | none => simp only [hgd] at h ⊢; exact h
 | some p =>
  obtain ⟨j, want⟩ := p
  simp only [hgd] at h ⊢
  cases hd : (ops[j]?).bind (·.dst) with
  | none => simp only [hd] at h ⊢; exact h
  | some d =>
   simp only [hd] at h ⊢
   obtain ⟨k1, k2⟩ := hg j want d hgd hd
   split at h
   ·rename_i b' hb; rw [k1 b' hb]; exact h
   ·rename_i hb; rw [k2 hb]; exact h
   ·cases h
theorem quiet_congr {i : Nat} {t : Option (Option (List Nat))} {q : V × Option (List V) × Option (Option Nat)} (h : quiet P ops base i o e sig t = some q) (hr : ∀ x ∈ o.op.operands, rd e' x = rd e x)
  (hg : ∀ j want d, o.guard = some (j, want) -> (ops[j]?).bind (·.dst) = some d -> sameTruth e e' d) (hs : ∀ id, q.2.2 = some (some id) -> plainAt sig' id = plainAt sig id) : quiet P ops base i o e' sig' t = some q := by
 unfold quiet at h ⊢
 split at h
 ·cases h
 ·rename_i hw; rw [wantedV_congr hw hg]; exact h
 ·rename_i hw
  rw [wantedV_congr hw hg]
  simp only
  have hN : ((evN P (rd e) sig o).map fun q => (q.1, (none : Option (List V)), some q.2)) = some q -> ((evN P (rd e') sig' o).map fun q => (q.1, (none : Option (List V)), some q.2)) = some q := by
   intro h
   cases hn : evN P (rd e) sig o with
   | none => simp [hn] at h
   | some p =>
    simp [hn] at h
    subst h
    rw [evN_congr (v := p.1) (ld := p.2) hn hr (fun id hid => hs id (by simp [hid]))]
    rfl
  cases hop : o.op with
  | alloc ty => simp only [hop] at h; exact h
  | box ty x =>
   simp only [hop] at h ⊢
   rw [hr x (by simp [hop, Op.operands])]
   exact h
  | _ => simp only [hop] at h hN; exact hN h
end
end Go.Eng
