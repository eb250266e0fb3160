/- The engine: of a drawn region: an effect, beside what another operation writes. -/
import Derived.Test.YtimkclpogbfciaaDoorEngG
set_option linter.unusedVariables false
set_option linter.unusedSimpArgs false
namespace Go.Eng
open Go.RowKit
section
variable {P : Program} {ops : List Oper} {base : Nat} {o : Oper}
def Wr.env (q : Wr) (e : Env) : Env := e.put q.dst q.v
def Wr.sig (q : Wr) (s : Sig) : Sig := match q.box with | some (id, cs) => s.set id cs | none => s
def Wr.tl (q : Wr) (t : List (Option (List Nat))) : List (Option (List Nat)) := match q.t with | some x => t.set q.at_ x | none => t
def Wr.ll (q : Wr) (t : List (Option Nat)) : List (Option Nat) := match q.l with | some x => t.set q.at_ x | none => t
theorem Wr.on_def (q : Wr) (r : R) : q.on r = { env := q.env r.env, sig := q.sig r.sig, tl := q.tl r.tl, ll := q.ll r.ll } := rfl
structure Off (ops : List Oper) (base p : Nat) (o : Oper) (q : Wr) : Prop where
 opnd : ∀ d, q.dst = some d -> .tmp d ∉ o.op.operands
 dst : ∀ d, q.dst = some d -> o.dst ≠ some d
 guard : ∀ j want d, o.guard = some (j, want) -> (ops[j]?).bind (·.dst) = some d -> q.dst ≠ some d
 moves : ∀ d, q.dst = some d -> laterOnly ops d p = false
 loads : ∀ s, .tmp s ∈ o.op.operands -> ∀ j o' t pp, writer ops s p = some (j, o') -> o'.op = .load t (.tmp pp) -> q.dst ≠ some pp
 ne : q.at_ ≠ p
 box : ∀ id c, q.box = some (id, c) -> base <= id
 t : ∀ ids, q.t = some (some ids) -> ∀ id ∈ ids, base <= id
theorem Wr.at_ne (q : Wr) (e : Env) {s : Nat} (h : q.dst ≠ some s) : (q.env e).at s = e.at s := at_put_ne h
theorem Wr.rd_ne (q : Wr) (e : Env) {x : Operand} (h : ∀ d, q.dst = some d -> x ≠ .tmp d) : rd (q.env e) x = rd e x := by
 cases x with
 | tmp t => simp only [rd, rdF]; rw [q.at_ne e (fun hd => h t hd rfl)]
 | const v => rfl
 | func f => rfl
 | global g => rfl
variable {p : Nat} {q : Wr}
theorem Off.rd (h : Off ops base p o q) (e : Env) {x : Operand} (hx : x ∈ o.op.operands) : rd (q.env e) x = rd e x :=
 q.rd_ne e fun d hd hxd => h.opnd d hd (hxd ▸ hx)
def Wr.news (q : Wr) (base : Nat) (tl : List (Option (List Nat))) : Prop := q.t.isSome = true -> ∀ ids, tl[q.at_]? = some (some ids) -> ∀ id ∈ ids, base <= id
theorem Off.seen (h : Off ops base p o q) {tl : List (Option (List Nat))} (hn : q.news base tl) {f : Option (List Nat) -> Bool} (hf : ∀ ids : List Nat, (∀ k ∈ ids, base <= k) -> f (some ids) = true) (hf0 : f none = true) :
  (q.tl tl).all f = tl.all f := by
 simp only [Wr.tl]
 cases hq : q.t with
 | none => rfl
 | some t =>
  simp only
  apply Bool.eq_iff_iff.2
  simp only [List.all_eq_true]
  constructor
  ·intro hh x hx
   obtain ⟨k, hk⟩ := List.getElem?_of_mem hx
   by_cases hka : q.at_ = k
   ·subst hka
    cases x with
    | none => exact hf0
    | some ids => exact hf ids (hn (by rw [hq]; rfl) ids hk)
   ·exact hh x (List.mem_of_getElem? (i := k) (by rw [List.getElem?_set_ne hka]; exact hk))
  ·intro hh x hx
   rcases List.mem_or_eq_of_mem_set hx with hx | rfl
   ·exact hh x hx
   ·cases x with
    | none => exact hf0
    | some ids => exact hf ids (h.t ids hq)
theorem Off.at_old (h : Off ops base p o q) {sig : Sig} {id : Nat} (hid : id < base) : (q.sig sig)[id]? = sig[id]? := by
 simp only [Wr.sig]
 cases hb : q.box with
 | none => rfl
 | some y =>
  obtain ⟨k, c⟩ := y
  simp only
  rw [List.getElem?_set_ne (fun hh => by have := h.box k c hb; omega)]
theorem Off.locOf (h : Off ops base p o q) {e : Env} {sig : Sig} {tl : List (Option (List Nat))} (hn : q.news base tl) {x : Operand} (hx : x ∈ o.op.operands) :
  locOf P ops base p (q.env e).at (q.sig sig) (q.tl tl) x = locOf P ops base p e.at sig tl x := by
 cases x with
 | const v => unfold Eng.locOf; split <;> first | rfl | (rename_i hh; cases hh) | contradiction
 | func f => rfl
 | global g => rfl
 | tmp d =>
  have hd : q.dst ≠ some d := fun hd => h.opnd d hd hx
  simp only [Eng.locOf]
  rw [q.at_ne e hd]
  cases hv : e.at d with
  | t y =>
   cases y with
   | list zs =>
    simp only
    cases hwr : writer ops d p with
    | none => rfl
    | some jo =>
     obtain ⟨j, o'⟩ := jo
     simp only
     cases hop : o'.op with
     | move y =>
      cases y with
      | tmp s =>
       simp only
       by_cases hs : q.dst = some s
       ·have hlo := h.moves s hs
        rw [hlo]
        simp only [Bool.false_eq_true, if_false]
        cases (q.env e).at s <;> cases e.at s <;> rfl
       ·rw [q.at_ne e hs]
      | _ => rfl
     | load t ad =>
      simp only
      have hrd : rdF (q.env e).at ad = rdF e.at ad := q.rd_ne e (fun pp hpp hadd => by
       subst hadd
       exact h.loads d hx j o' t pp hwr hop hpp)
      rw [hrd]
      cases hr : rdF e.at ad with
      | none => rfl
      | some y =>
       cases y with
       | ptr id off =>
        cases tyAgg P t with
        | none => rfl
        | some ag =>
         cases ag with
         | true => rfl
         | false =>
          by_cases hid : id < base
          ·simp only [h.at_old (sig := sig) hid]
           rw [h.seen hn (fun ids hids => by
            simp only [Bool.not_eq_true', List.contains_eq_mem, decide_eq_false_iff_not]
            intro hh
            have := hids id hh
            omega) rfl]
          ·have hf : decide (id < base) = false := by simp [hid]
           simp only [hf, Bool.false_and, Bool.false_eq_true, if_false]
           cases (q.sig sig)[id]? with
           | none =>
            cases sig[id]? with
            | none => rfl
            | some c2 =>
             cases c2 with
             | none => rfl
             | some cs => simp only; cases cs[off]? with
              | none => rfl
              | some u => cases u <;> rfl
           | some c1 =>
            have hL : (match (some c1 : Option (Option (List V))) with | some (some cs) => (match cs[off]? with | some (.own sz es) => (none : Option (Loc × Nat × List T)) | _ => none) | _ => none) = none := by
             cases c1 with
             | none => rfl
             | some cs => simp only; cases cs[off]? with
              | none => rfl
              | some u => cases u <;> rfl
            have hR : (match sig[id]? with | some (some cs) => (match cs[off]? with | some (.own sz es) => (none : Option (Loc × Nat × List T)) | _ => none) | _ => none) = none := by
             cases sig[id]? with
             | none => rfl
             | some c2 =>
              cases c2 with
              | none => rfl
              | some cs => simp only; cases cs[off]? with
               | none => rfl
               | some u => cases u <;> rfl
            exact hL.trans hR.symm
       | _ => rfl
     | _ => rfl
   | _ => rfl
  | _ => rfl
theorem Off.home (h : Off ops base p o q) {e : Env} {sig : Sig} {tl : List (Option (List Nat))} {x : Operand} (hx : x ∈ o.op.operands) {l : Loc} {sz : Nat} {es : List T} (hl : Eng.locOf P ops base p e.at sig tl x = some (l, sz, es)) :
  (∀ s, l = .slot s -> q.dst ≠ some s) /\ ∀ id off, l = .box id off -> id < base := by
 cases x with
 | const v =>
  simp only [Eng.locOf] at hl
  split at hl
  ·rename_i h1
   simp only [Option.some.injEq, Prod.mk.injEq] at hl
   obtain ⟨rfl, _⟩ := hl
   exact ⟨by simp, by simp⟩
  all_goals first | (cases hl; done) | (rename_i h1; cases h1; done) | skip
 | func f => simp [Eng.locOf] at hl
 | global g => simp [Eng.locOf] at hl
 | tmp d =>
  have hd : q.dst ≠ some d := fun hd => h.opnd d hd hx
  simp only [Eng.locOf] at hl
  split at hl
  ·simp only [Option.some.injEq, Prod.mk.injEq] at hl
   obtain ⟨rfl, _⟩ := hl
   exact ⟨by simp, by simp⟩
  ·simp only [Option.some.injEq, Prod.mk.injEq] at hl
   obtain ⟨rfl, _⟩ := hl
   exact ⟨fun s hs => by simp only [Loc.slot.injEq] at hs; subst hs; exact hd, by simp⟩
  ·split at hl
   ·rename_i j o' hwr
    split at hl
    ·rename_i s hop
     split at hl
     ·split at hl
      ·rename_i hlo
       simp only [Option.some.injEq, Prod.mk.injEq] at hl
       obtain ⟨rfl, _⟩ := hl
       refine ⟨fun s' hs' => ?_, by simp⟩
       simp only [Loc.slot.injEq] at hs'
       subst hs'
       intro hq
       rw [h.moves _ hq] at hlo
       cases hlo
      ·cases hl
     ·cases hl
    ·rename_i t ad hop
     split at hl
     ·split at hl
      ·split at hl
       ·split at hl
        ·rename_i hc
         simp only [Bool.and_eq_true, decide_eq_true_eq] at hc
         simp only [Option.some.injEq, Prod.mk.injEq] at hl
         obtain ⟨rfl, _⟩ := hl
         exact ⟨by simp, fun id' off' hh => by simp only [Loc.box.injEq] at hh; rw [<- hh.1]; exact hc.1.1⟩
        ·cases hl
       ·cases hl
      ·cases hl
     ·cases hl
    ·cases hl
   ·cases hl
  ·cases hl
theorem set_put_comm {e : Env} {s : Nat} {v u : V} {d : Option Nat} (h : d ≠ some s) : Env.put (e.set s u) d v = (Env.put e d v).set s u := by
 cases d with
 | none => rfl
 | some d =>
  simp only [Env.put]
  exact List.set_comm _ _ (fun hh => h (by rw [hh]))
theorem Wr.consume {e : Env} {sig : Sig} {l : Loc} {es : List T} (h1 : ∀ s, l = .slot s -> q.dst ≠ some s) (h2 : ∀ id off, l = .box id off -> id < base) (h3 : ∀ id c, q.box = some (id, c) -> base <= id) :
  Eng.consume (q.env e) (q.sig sig) l es = (q.env (Eng.consume e sig l es).1, q.sig (Eng.consume e sig l es).2) := by
 cases l with
 | nil => rfl
 | slot s => simp only [Eng.consume, Wr.env]; rw [set_put_comm (h1 s rfl)]
 | box id off =>
  have hid := h2 id off rfl
  simp only [Eng.consume, Wr.sig]
  cases hb : q.box with
  | none => rfl
  | some y =>
   obtain ⟨k, c⟩ := y
   have hk := h3 k c hb
   simp only
   have hne : k ≠ id := by omega
   rw [List.set_comm _ _ hne]
   have : (sig.set k c).getD id none = sig.getD id none := by simp [List.getD_eq_getElem?_getD, List.getElem?_set_ne hne]
   rw [this]
 | arg i => rfl
 | res => rfl
theorem Off.handOn (h : Off ops base p o q) {all : Bool} {e : Env} {sig : Sig} {tl : List (Option (List Nat))} (hn : q.news base tl) {x : Operand} (hx : x ∈ o.op.operands) :
  Eng.handOn P all ops base p (q.env e) (q.sig sig) (q.tl tl) x = (Eng.handOn P all ops base p e sig tl x).map fun y => (y.1, q.env y.2.1, q.sig y.2.2) := by
 unfold Eng.handOn
 rw [h.locOf hn hx, h.rd e hx]
 cases hl : Eng.locOf P ops base p e.at sig tl x with
 | none => simp only [Option.map_map]; rfl
 | some y =>
  obtain ⟨l, sz, es⟩ := y
  obtain ⟨h1, h2⟩ := h.home hx hl
  cases hll : l with
  | nil => rfl
  | _ =>
   subst hll
   simp only
   split
   ·simp only [Wr.consume h1 h2 h.box]; rfl
   ·simp only [Option.map_map]; rfl
theorem Off.handAll (h : Off ops base p o q) {tl : List (Option (List Nat))} (hn : q.news base tl) : ∀ {xs : List Operand} {e : Env} {sig : Sig}, (∀ x ∈ xs, x ∈ o.op.operands) →
  Eng.handAll P ops base p (q.env e) (q.sig sig) (q.tl tl) xs = (Eng.handAll P ops base p e sig tl xs).map fun y => (y.1, q.env y.2.1, q.sig y.2.2)
 | [], e, sig, _ => rfl
 | x :: xs, e, sig, hx => by
  simp only [Eng.handAll]
  rw [h.handOn hn (hx x (by simp))]
  cases h1 : Eng.handOn P false ops base p e sig tl x with
  | none => rfl
  | some y =>
   obtain ⟨v, e1, s1⟩ := y
   simp only [Option.map_some]
   rw [Off.handAll h hn (fun z hz => hx z (by simp [hz]))]
   cases Eng.handAll P ops base p e1 s1 tl xs with
   | none => rfl
   | some z => rfl
theorem idsOf_set {sig : Sig} {id k : Nat} {c : Option (List V)} (h : k ≠ id) : idsOf (sig.set id c) k = idsOf sig k := by
 simp only [idsOf]
 rw [List.getElem?_set_ne (fun hh => h hh.symm)]
theorem flatMap_set {sig : Sig} {id : Nat} {c : Option (List V)} : ∀ {l : List Nat}, id ∉ l -> l.flatMap (idsOf (sig.set id c)) = l.flatMap (idsOf sig)
 | [], _ => rfl
 | x :: xs, h => by
  simp only [List.mem_cons, not_or] at h
  simp only [List.flatMap_cons]
  rw [idsOf_set (fun hh => h.1 hh.symm), flatMap_set h.2]
theorem mem_dedup_of {id : Nat} : ∀ {l : List Nat}, id ∈ l -> id ∈ dedup l
 | x :: xs, h => by
  simp only [dedup]
  split
  ·rename_i hc
   rcases List.mem_cons.1 h with h | h
   ·subst h; exact mem_dedup_of (by simpa using hc)
   ·exact mem_dedup_of h
  ·rcases List.mem_cons.1 h with h | h
   ·simp [h]
   ·exact List.mem_cons_of_mem _ (mem_dedup_of h)
theorem close_sub {sig : Sig} {k : Nat} : ∀ (n : Nat) {l : List Nat}, k ∈ l -> k ∈ close sig n l
 | 0, l, h => by simpa [close] using h
 | n + 1, l, h => by
  simp only [close]
  split
  ·exact h
  ·exact close_sub n (mem_dedup_of (List.mem_append_left _ h))
theorem close_set {sig : Sig} {id : Nat} {c : Option (List V)} : ∀ (n : Nat) {l : List Nat}, id ∉ close sig n l -> close (sig.set id c) n l = close sig n l
 | 0, l, h => rfl
 | n + 1, l, h => by
  have hl : id ∉ l := fun hh => h (close_sub (n + 1) hh)
  simp only [close] at h ⊢
  rw [flatMap_set hl]
  split
  ·rfl
  ·rename_i hc
   rw [if_neg hc] at h
   exact close_set n h
theorem sigIn_set {sig : Sig} {ρ : Nat -> Option Nat} {id : Nat} {c : Option (List V)} : ∀ {l : List Nat}, id ∉ l -> sigIn (sig.set id c) ρ l = sigIn sig ρ l
 | [], _ => rfl
 | x :: xs, h => by
  simp only [List.mem_cons, not_or] at h
  simp only [sigIn]
  rw [List.getElem?_set_ne h.1, sigIn_set h.2]
theorem sigBack_set {ρ : Nat -> Option Nat} {id : Nat} {c : Option (List V)} : ∀ {l : List Nat} {sig s : Sig}, id ∉ l -> sigBack ρ (sig.set id c) l s = (sigBack ρ sig l s).map fun y => y.set id c
 | [], sig, s, _ => by simp [sigBack]
 | x :: xs, sig, s, h => by
  simp only [List.mem_cons, not_or] at h
  match s with
  | [] => simp [sigBack]
  | none :: s => simp [sigBack]
  | some cs :: s =>
   simp only [sigBack]
   cases renL ρ cs with
   | none => rfl
   | some us =>
    simp only
    rw [List.set_comm _ _ h.1, sigBack_set h.2]
theorem evCall_set {call : CallF} {f : FuncId} {vs : List V} {sig s3 : Sig} {v : V} {rts : List Nat} {id : Nat} {c : Option (List V)} (h : evCall call f vs sig = some (v, s3, rts)) (hid : id ∉ rts) :
  evCall call f vs (sig.set id c) = some (v, s3.set id c, rts) := by
 unfold evCall at h ⊢
 simp only at h ⊢
 split at h
 ·rename_i hc
  split at h
  ·rename_i vs1 sig1 h1 h2
   split at h
   ·rename_i res sig2 h3
    split at h
    ·rename_i v1 sig3 h4 h5
     simp only [Option.some.injEq, Prod.mk.injEq] at h
     obtain ⟨rfl, rfl, rfl⟩ := h
     rw [close_set 4 hid, flatMap_set hid, if_pos hc, h1, sigIn_set hid, h2]
     simp only [h3, h4]
     rw [sigBack_set hid, h5]
     rfl
    ·cases h
   ·cases h
  ·cases h
 ·cases h
set_option maxHeartbeats 1000000 in
theorem Off.step (h : Off ops base p o q) {call : CallF} (hi : ops[p]? = some o) (hE : isE o = true) {r r' : R} (hs : Eng.step P call ops base p r = some r')
  (hid : ∀ id c, q.box = some (id, c) -> ∀ ids, r'.tl[p]? = some (some ids) -> id ∉ ids) (hpl : p < r.tl.length) (hn : q.news base r.tl) : Eng.step P call ops base p (q.on r) = some (q.on r') := by
 rw [Wr.on_def]
 have hguard : ∀ b, wantedV ops r.env o = some b -> wantedV ops (q.env r.env) o = some b := fun b hb => wantedV_congr hb (fun j want d hg hd => by
  have hne := h.guard j want d hg hd
  have : (q.env r.env)[d]? = r.env[d]? := by
   cases hq : q.dst with
   | none => simp [Wr.env, hq, Env.put]
   | some d' => simp only [Wr.env, hq, Env.put]; rw [List.getElem?_set_ne (fun hh => hne (by rw [hq, hh]))]
  exact ⟨fun b hb => by rw [this]; exact hb, fun hb => by rw [this]; exact hb⟩)
 have hput : ∀ (e : Env) (v : V), Env.put (q.env e) o.dst v = q.env (Env.put e o.dst v) := by
  intro e v
  cases hd : o.dst with
  | none => rfl
  | some d =>
   show (Env.put e q.dst q.v).set d v = Env.put (e.set d v) q.dst q.v
   rw [set_put_comm]
   intro hq; exact h.dst d hq hd
 have htls : ∀ (t : List (Option (List Nat))) (x : Option (List Nat)), (q.tl t).set p x = q.tl (t.set p x) := by
  intro t x
  simp only [Wr.tl]
  split
  ·exact List.set_comm _ _ (fun hh => h.ne hh)
  ·rfl
 unfold Eng.step at hs ⊢
 simp only [hi] at hs ⊢
 split at hs
 ·cases hs
 ·rename_i hw
  rw [hguard _ hw]
  simp only [Option.some.injEq] at hs
  subst hs
  rw [Wr.on_def]
  simp only [hput]
 rename_i hw
 rw [hguard _ hw]
 simp only
 cases hop : o.op with
 | assign x =>
  simp only [hop] at hs ⊢
  rw [h.handOn hn (by simp [hop, Op.operands])]
  split at hs
  ·rename_i v e1 s1 hh
   simp only [Option.some.injEq] at hs
   subst hs
   simp only [hh, Option.map_some, Wr.on_def, hput]
  ·cases hs
 | store t ad x =>
  simp only [hop] at hs ⊢
  rw [h.handOn hn (x := x) (by simp [hop, Op.operands]), h.rd r.env (x := ad) (by simp [hop, Op.operands])]
  split at hs
  ·rename_i id off v e1 s1 n had hh hn
   simp only [hh, Option.map_some, had, hn]
   split at hs
   ·rename_i cs hcs
    split at hs
    ·rename_i hc
     simp only [Option.some.injEq] at hs
     subst hs
     have hne : ∀ id' c, q.box = some (id', c) -> id' ≠ id := by
      intro id' c hb hh'
      exact hid id' c hb [id] (by simp [hpl]) (by simp [hh'])
     have hsame : (q.sig s1)[id]? = s1[id]? := by
      cases hb : q.box with
      | none => simp [Wr.sig, hb]
      | some y => obtain ⟨id', c⟩ := y; simp only [Wr.sig, hb]; rw [List.getElem?_set_ne (hne id' c hb)]
     have hset : ∀ y, (q.sig s1).set id y = q.sig (s1.set id y) := by
      intro y
      cases hb : q.box with
      | none => simp [Wr.sig, hb]
      | some z => obtain ⟨id', c⟩ := z; simp only [Wr.sig, hb]; rw [List.set_comm _ _ (hne id' c hb)]
     simp only [hsame, hcs, if_pos hc, Wr.on_def, hput, htls, hset]
    ·cases hs
   ·cases hs
  ·cases hs
 | call c =>
  simp only [hop] at hs ⊢
  cases hcl : c.callee with
  | invoke a b => simp only [hcl] at hs; cases hs
  | value fx =>
   simp only [hcl] at hs ⊢
   rw [h.rd r.env (x := fx) (by simp [hop, Op.operands, Call.operands, hcl]), h.handAll hn (fun x hx => by simp only [hop, Op.operands, Call.operands, hcl, Array.mem_append]; exact .inr (by simpa using hx))]
   split at hs
   ·rename_i f caps vs e1 s1 hf hh
    simp only [hf, hh, Option.map_some]
    split at hs
    ·rename_i v s2 roots hev
     simp only [Option.some.injEq] at hs
     subst hs
     have hev' : evCall call f (vs ++ caps) (q.sig s1) = some (v, q.sig s2, roots) := by
      cases hb : q.box with
      | none => simp only [Wr.sig, hb]; exact hev
      | some y =>
       obtain ⟨id', cc⟩ := y
       simp only [Wr.sig, hb]
       exact evCall_set hev (hid id' cc hb roots (by simp [hpl]))
     simp only [hev', Wr.on_def, hput, htls]
    ·cases hs
   ·cases hs
  | builtin b =>
   cases b with
   | append =>
    simp only [hcl] at hs ⊢
    split at hs
    ·rename_i x y tx ty hxy htt
     try simp only [hxy, htt]
     have hxo : x ∈ o.op.operands := by
      have : x ∈ c.args.toList := by rw [hxy]; simp
      simp only [hop, Op.operands, Call.operands, hcl, Array.mem_append]; exact .inr (by simpa using this)
     have hyo : y ∈ o.op.operands := by
      have : y ∈ c.args.toList := by rw [hxy]; simp
      simp only [hop, Op.operands, Call.operands, hcl, Array.mem_append]; exact .inr (by simpa using this)
     rw [h.locOf hn hxo, h.rd r.env hyo]
     split at hs
     ·rename_i l sz es ys el hl hy ht
      try simp only [hl, hy, ht]
      split at hs
      ·rename_i n hn
       try simp only [hn]
       split at hs
       ·rename_i hc
        simp only [Option.some.injEq] at hs
        subst hs
        obtain ⟨h1, h2⟩ := h.home hxo hl
        simp only [if_pos hc, Wr.consume h1 h2 h.box, Wr.on_def, hput]
       ·cases hs
      ·cases hs
     ·cases hs
    ·cases hs
   | _ => simp only [isE, hop, hcl] at hE; cases hE
 | _ => simp only [isE, hop] at hE; cases hE
end
end Go.Eng
