/- The engine: of a drawn region: two operations that nothing orders come to the same either way. -/
import Derived.Test.YtimkclpogbfciaaDoorEngI
set_option linter.unusedVariables false
set_option linter.unusedSimpArgs false
namespace Go.Eng
open Go.RowKit
def aside (ops : List Oper) (p : Nat) (o ok : Oper) : Bool :=
 o.op.operands.toList.all fun x => match x with
  | .tmp s => (match writer ops s p with
   | some (_, o') => (match o'.op with
     | .load _ (.tmp pp) => ok.dst != some pp
     | _ => true)
   | none => true)
  | _ => true
def pairOk (ops : Array Oper) (i : Nat) (oi : Oper) (j : Nat) (oj : Oper) : Bool :=
 !(isE oi && isE oj) && oi.apart ops oj && (!isE oi || aside ops.toList i oi oj) && (!isE oj || aside ops.toList j oj oi)
section
variable {P : Program} {ops : List Oper} {base : Nat} {o : Oper}
theorem isAlloc_quiet {ok : Oper} (h : isAlloc ok = true) : isE ok = false := by
 unfold isAlloc at h
 unfold isE
 split at h <;> simp_all
theorem quiet_box {i : Nat} {e : Env} {sig : Sig} {t : Option (Option (List Nat))} {v : V} {cs : List V} {l : Option (Option Nat)} (h : quiet P ops base i o e sig t = some (v, some cs, l)) : isAlloc o = true /\ t = some none := by
 unfold quiet at h
 split at h
 ·cases h
 ·simp at h
 ·cases hop : o.op with
  | alloc ty =>
   simp only [hop] at h
   split at h
   ·rename_i ht; exact ⟨by simp [isAlloc, hop], rfl⟩
   ·cases h
  | box ty x =>
   simp only [hop] at h
   split at h
   ·exact ⟨by simp [isAlloc, hop], rfl⟩
   ·cases h
  | _ =>
   simp only [hop] at h
   cases hn : evN P (rd e) sig o with
   | none => simp [hn] at h
   | some y => simp [hn] at h
theorem mem_looksAt_opnd {ops : Array Oper} {o : Oper} {d : Nat} (h : Operand.tmp d ∈ o.op.operands) : d ∈ o.looksAt ops :=
 List.mem_append_left _ (List.mem_filterMap.2 ⟨.tmp d, by simpa using h, rfl⟩)
theorem mem_looksAt_guard {ops : Array Oper} {o : Oper} {d j : Nat} {want : Bool} (h : o.guard = some (j, want)) (hd : (ops.toList[j]?).bind (·.dst) = some d) : d ∈ o.looksAt ops := by
 refine List.mem_append_right _ ?_
 simp only [h]
 have : (ops[j]?).bind (·.dst) = some d := by simpa using hd
 simp [this]
theorem off_of {ops : Array Oper} {p k : Nat} {o ok : Oper} (hk : ops.toList[k]? = some ok) (hne : k ≠ p) (hE : isE ok = false) (hap : ∀ d, ok.dst = some d -> d ∉ o.looksAt ops) (hd : ∀ d, ok.dst = some d -> o.dst ≠ some d)
  (has : aside ops.toList p o ok = true) {q : Wr} (hq : q.dst = ok.dst) (hat : q.at_ = k) (hbox : ∀ id c, q.box = some (id, c) -> base <= id) (ht : ∀ ids, q.t = some (some ids) -> ∀ id ∈ ids, base <= id) : Off ops.toList base p o q := by
 have has' := List.all_eq_true.1 has
 refine ⟨fun d h1 h2 => hap d (by rw [<- hq]; exact h1) (mem_looksAt_opnd h2), fun d h1 => hd d (by rw [<- hq]; exact h1), fun j want d h1 h2 h3 => hap d (by rw [<- hq]; exact h3) (mem_looksAt_guard h1 h2), fun d h1 => ?_, fun s hs j o' t pp hwr hop hpp => ?_, by rw [hat]; exact hne, hbox, ht⟩
 ·cases hl : laterOnly ops.toList d p with
  | false => rfl
  | true =>
   have := (laterOnly_spec hl hk (by rw [<- hq]; exact h1)).2
   rw [hE] at this; cases this
 ·have := has' (.tmp s) (by simpa using hs)
  simp only [hwr, hop, bne_iff_ne] at this
  exact this (by rw [<- hq]; exact hpp)
structure Seen (r : R) (i j : Nat) (oi oj : Oper) : Prop where
 load : ∀ id ids, r.ll[i]? = some (some id) -> r.tl[j]? = some (some ids) -> id ∉ ids
 alloc : isAlloc oj = true -> ∀ ids ids' id, r.tl[j]? = some (some ids) -> r.tl[i]? = some (some ids') -> id ∈ ids -> id ∉ ids'
theorem rd_on {e : Env} {dst : Option Nat} {v : V} {x : Operand} (h : ∀ d, dst = some d -> x ≠ .tmp d) : rd (e.put dst v) x = rd e x := by
 cases x with
 | tmp t => simp only [rd, rdF]; rw [at_put_ne (fun hd => h t hd rfl)]
 | const v => rfl
 | func f => rfl
 | global g => rfl
theorem put_old (e : Env) (dst : Option Nat) (v : V) : ∃ u, Env.put (Env.put e dst v) dst u = e := by
 cases dst with
 | none => exact ⟨v, rfl⟩
 | some d =>
  refine ⟨e.at d, ?_⟩
  simp only [Env.put, List.set_set]
  by_cases h : d < e.length
  ·simp [Env.at, h]
  ·rw [List.set_eq_of_length_le (by omega)]
theorem set_old {α : Type} (l : List α) (i : Nat) (x : α) : ∃ u, (l.set i x).set i u = l /\ (i < l.length -> l[i]? = some u) := by
 by_cases h : i < l.length
 ·exact ⟨l[i], by simp, fun _ => by simp⟩
 ·refine ⟨x, ?_, fun hh => absurd hh h⟩
  exact (by rw [List.set_eq_of_length_le (by simp; omega), List.set_eq_of_length_le (by omega)])
theorem Wr.undo (q : Wr) (r : R) : ∃ u : Wr, u.dst = q.dst /\ u.at_ = q.at_ /\ (u.box.isSome = q.box.isSome) /\ (u.t.isSome = q.t.isSome) /\ (∀ id c, u.box = some (id, c) -> ∃ c', q.box = some (id, c')) /\ (∀ t, u.t = some t -> q.at_ < r.tl.length -> r.tl[q.at_]? = some t) /\ u.on (q.on r) = r := by
 obtain ⟨v, hv⟩ := put_old r.env q.dst q.v
 have hb : ∃ b : Option (Nat × Option (List V)), b.isSome = q.box.isSome /\ (∀ id c, b = some (id, c) -> ∃ c', q.box = some (id, c')) /\ (match b with | some (id, cs) => (q.on r).sig.set id cs | none => (q.on r).sig) = r.sig := by
  cases hq : q.box with
  | none => exact ⟨none, rfl, by simp, by simp [Wr.on, hq]⟩
  | some y =>
   obtain ⟨id, c⟩ := y
   obtain ⟨u, hu, _⟩ := set_old r.sig id c
   exact ⟨some (id, u), rfl, fun id' c' h => by simp only [Option.some.injEq, Prod.mk.injEq] at h; exact ⟨c, by rw [h.1]⟩, by simp only [Wr.on, hq]; exact hu⟩
 have ht : ∃ t : Option (Option (List Nat)), t.isSome = q.t.isSome /\ (∀ y, t = some y -> q.at_ < r.tl.length -> r.tl[q.at_]? = some y) /\ (match t with | some t => (q.on r).tl.set q.at_ t | none => (q.on r).tl) = r.tl := by
  cases hq : q.t with
  | none => exact ⟨none, rfl, by simp, by simp [Wr.on, hq]⟩
  | some y =>
   obtain ⟨u, hu, hu'⟩ := set_old r.tl q.at_ y
   exact ⟨some u, rfl, fun z hz hlt => (by simp only [Option.some.injEq] at hz; rw [<- hz]; exact hu' hlt), by simp only [Wr.on, hq]; exact hu⟩
 have hl : ∃ t : Option (Option Nat), (match t with | some t => (q.on r).ll.set q.at_ t | none => (q.on r).ll) = r.ll := by
  cases hq : q.l with
  | none => exact ⟨none, by simp [Wr.on, hq]⟩
  | some y =>
   obtain ⟨u, hu, _⟩ := set_old r.ll q.at_ y
   exact ⟨some u, by simp only [Wr.on, hq]; exact hu⟩
 obtain ⟨b, hb1, hb2, hb3⟩ := hb
 obtain ⟨t, ht1, ht3, ht2⟩ := ht
 obtain ⟨l, hl⟩ := hl
 refine ⟨⟨q.dst, v, b, q.at_, t, l⟩, rfl, rfl, hb1, ht1, hb2, ht3, ?_⟩
 have e1 : ∀ u : Wr, u.on (q.on r) = { env := (q.on r).env.put u.dst u.v, sig := match u.box with | some (id, cs) => (q.on r).sig.set id cs | none => (q.on r).sig, tl := match u.t with | some t => (q.on r).tl.set u.at_ t | none => (q.on r).tl, ll := match u.l with | some l => (q.on r).ll.set u.at_ l | none => (q.on r).ll } := fun _ => rfl
 rw [e1]
 simp only [hb3, ht2, hl]
 have : (q.on r).env = Env.put r.env q.dst q.v := rfl
 rw [this, hv]
theorem Wr.comm {q u : Wr} (hd : ∀ d, q.dst = some d -> u.dst ≠ some d) (ha : q.at_ ≠ u.at_) (hb : ∀ id c id' c', q.box = some (id, c) -> u.box = some (id', c') -> id ≠ id') (r : R) : q.on (u.on r) = u.on (q.on r) := by
 obtain ⟨dst, v, box, at_, t, l⟩ := q
 obtain ⟨dst', v', box', at_', t', l'⟩ := u
 simp only at hd ha hb
 simp only [Wr.on, R.mk.injEq]
 refine ⟨?_, ?_, ?_, ?_⟩
 ·cases dst with
  | none => rfl
  | some d =>
   cases dst' with
   | none => rfl
   | some d' => simp only [Env.put]; exact List.set_comm _ _ (fun h => hd d rfl (by rw [h]))
 ·cases box with
  | none => rfl
  | some y =>
   cases box' with
   | none => rfl
   | some z => exact List.set_comm _ _ (fun h => hb y.1 y.2 z.1 z.2 rfl rfl h.symm)
 ·cases t with
  | none => rfl
  | some y =>
   cases t' with
   | none => rfl
   | some z => exact List.set_comm _ _ (Ne.symm ha)
 ·cases l with
  | none => rfl
  | some y =>
   cases l' with
   | none => rfl
   | some z => exact List.set_comm _ _ (Ne.symm ha)
theorem on_tl_ne {q : Wr} {r : R} {k : Nat} (h : q.at_ ≠ k) : (q.on r).tl[k]? = r.tl[k]? := by
 simp only [Wr.on]
 split
 ·rw [List.getElem?_set_ne h]
 ·rfl
theorem on_ll_ne {q : Wr} {r : R} {k : Nat} (h : q.at_ ≠ k) : (q.on r).ll[k]? = r.ll[k]? := by
 simp only [Wr.on]
 split
 ·rw [List.getElem?_set_ne h]
 ·rfl
theorem on_tl_len {q : Wr} {r : R} : (q.on r).tl.length = r.tl.length := by
 simp only [Wr.on]; split <;> simp
theorem on_ll_len {q : Wr} {r : R} : (q.on r).ll.length = r.ll.length := by
 simp only [Wr.on]; split <;> simp
theorem on_ll_self {q : Wr} {r : R} {k : Nat} {x : Option Nat} (h : q.l = some x) (hk : q.at_ = k) (hl : k < r.ll.length) : (q.on r).ll[k]? = some x := by
 subst hk
 simp only [Wr.on, h]; simp [hl]
theorem on_tl_self {q : Wr} {r : R} {k : Nat} {x : Option (List Nat)} (h : q.t = some x) (hk : q.at_ = k) (hl : k < r.tl.length) : (q.on r).tl[k]? = some x := by
 subst hk
 simp only [Wr.on, h]; simp [hl]
theorem on_plainAt {q : Wr} {r : R} {id : Nat} (h : ∀ id' c, q.box = some (id', c) -> id' ≠ id) : plainAt (q.on r).sig id = plainAt r.sig id := by
 simp only [Wr.on, plainAt]
 cases hb : q.box with
 | none => rfl
 | some y => simp only; rw [List.getElem?_set_ne (h y.1 y.2 hb)]
theorem wrOf_box {i : Nat} (q : V × Option (List V) × Option (Option Nat)) (id : Nat) (c : Option (List V)) (h : (wrOf ops base i o q).box = some (id, c)) : base <= id := by
 obtain ⟨v, b, l⟩ := q
 cases b with
 | none => simp [wrOf] at h
 | some cs => simp [wrOf] at h; omega
theorem wrOf_t {i : Nat} (q : V × Option (List V) × Option (Option Nat)) (ids : List Nat) (h : (wrOf ops base i o q).t = some (some ids)) : ∀ id ∈ ids, base <= id := by
 obtain ⟨v, b, l⟩ := q
 cases b with
 | none => simp [wrOf] at h
 | some cs =>
  simp [wrOf] at h
  subst h
  intro id hid
  simp at hid
  omega
theorem wrOf_news {i : Nat} {e : Env} {sig : Sig} {tl : List (Option (List Nat))} {q : V × Option (List V) × Option (Option Nat)} (h : quiet P ops base i o e sig tl[i]? = some q) : (wrOf ops base i o q).news base tl := by
 intro h1 ids h2
 obtain ⟨v, b, l⟩ := q
 cases b with
 | none => simp [wrOf] at h1
 | some cs =>
  have := (quiet_box h).2
  rw [show (wrOf ops base i o (v, some cs, l)).at_ = i from rfl, this] at h2
  cases h2
set_option maxHeartbeats 1000000 in
theorem swap {ops : Array Oper} {call : CallF} {i j : Nat} {oi oj : Oper} (hij : i ≠ j) (hi : ops.toList[i]? = some oi) (hj : ops.toList[j]? = some oj) (hpair : pairOk ops i oi j oj = true) {r r1 r2 : R} (hli : i < r.tl.length) (hlj : j < r.tl.length) (hki : i < r.ll.length) (hkj : j < r.ll.length)
  (h1 : step P call ops.toList base j r = some r1) (h2 : step P call ops.toList base i r1 = some r2) (hs : Seen r2 i j oi oj) (hs' : Seen r2 j i oj oi) : ∃ r1', step P call ops.toList base i r = some r1' /\ step P call ops.toList base j r1' = some r2 := by
 simp only [pairOk, Bool.and_eq_true, Bool.or_eq_true, Bool.not_eq_true', Bool.and_eq_false_iff] at hpair
 obtain ⟨⟨⟨hEE, hap⟩, hai⟩, haj⟩ := hpair
 obtain ⟨ha1, ha2, ha3⟩ := Oper.apart_spec hap
 have ha2' : ∀ d, oj.dst = some d -> oi.dst ≠ some d := fun d hd hd' => ha2 d hd' hd
 have hgd : ∀ {o : Oper} {dst : Option Nat}, (∀ d, dst = some d -> d ∉ o.looksAt ops) -> ∀ j want d, o.guard = some (j, want) -> (ops.toList[j]?).bind (·.dst) = some d -> dst ≠ some d := fun h j want d h1 h2 h3 => h d h3 (mem_looksAt_guard h1 h2)
 have hrd : ∀ {o : Oper} {dst : Option Nat}, (∀ d, dst = some d -> d ∉ o.looksAt ops) -> ∀ (e : Env) (v : V) x, x ∈ o.op.operands -> rd (e.put dst v) x = rd e x := fun h e v x hx => rd_on fun d hd hxd => h d hd (mem_looksAt_opnd (hxd ▸ hx))
 cases hEi : isE oi with
 | false =>
  cases hEj : isE oj with
  | false =>
   rw [step_quietly hj hEj] at h1
   cases hqj : quiet P ops.toList base j oj r.env r.sig r.tl[j]? with
   | none => simp [hqj] at h1
   | some qj =>
    simp [hqj] at h1
    subst h1
    rw [step_quietly hi hEi] at h2
    cases hqi : quiet P ops.toList base i oi ((wrOf ops.toList base j oj qj).on r).env ((wrOf ops.toList base j oj qj).on r).sig ((wrOf ops.toList base j oj qj).on r).tl[i]? with
    | none => simp [hqi] at h2
    | some qi =>
     simp [hqi] at h2
     subst h2
     have hboxes : ∀ id c id' c', (wrOf ops.toList base i oi qi).box = some (id, c) -> (wrOf ops.toList base j oj qj).box = some (id', c') -> id ≠ id' := by
      intro id c id' c' hb hb' hid
      simp only [wrOf] at hb hb'
      obtain ⟨v, b, l⟩ := qi
      obtain ⟨v', b', l'⟩ := qj
      cases b with
      | none => simp at hb
      | some cs =>
       cases b' with
       | none => simp at hb'
       | some cs' =>
        simp at hb hb'
        have := boxNo_inj hi hj (quiet_box hqi).1 (quiet_box hqj).1 (by omega)
        exact hij this
     have hqi0 : quiet P ops.toList base i oi r.env r.sig r.tl[i]? = some qi := by
      have ht : ((wrOf ops.toList base j oj qj).on r).tl[i]? = r.tl[i]? := on_tl_ne (fun h => hij h.symm)
      rw [ht] at hqi
      refine quiet_congr hqi (fun x hx => (hrd ha3 r.env qj.1 x hx).symm) (fun j' want d hg hd => (put_truth r.env oj.dst qj.1 (hgd ha3 j' want d hg hd)).2) (fun id hid => ?_)
      refine (on_plainAt (fun id' c hb => ?_)).symm
      obtain ⟨v', b', l'⟩ := qj
      cases b' with
      | none => simp [wrOf] at hb
      | some cs' =>
       simp [wrOf] at hb
       have := hs.load id [base + boxNo ops.toList j] (on_ll_self (by simp [wrOf, hid]) rfl (by rw [on_ll_len]; exact hki)) (by
        rw [on_tl_ne (by exact hij)]
        simp [Wr.on, wrOf, hlj])
       intro hh
       exact this (by simp; omega)
     refine ⟨(wrOf ops.toList base i oi qi).on r, by rw [step_quietly hi hEi, hqi0]; rfl, ?_⟩
     rw [step_quietly hj hEj]
     have hqj1 : quiet P ops.toList base j oj ((wrOf ops.toList base i oi qi).on r).env ((wrOf ops.toList base i oi qi).on r).sig ((wrOf ops.toList base i oi qi).on r).tl[j]? = some qj := by
      have ht : ((wrOf ops.toList base i oi qi).on r).tl[j]? = r.tl[j]? := on_tl_ne hij
      rw [ht]
      refine quiet_congr hqj (fun x hx => hrd ha1 r.env qi.1 x hx) (fun j' want d hg hd => (put_truth r.env oi.dst qi.1 (hgd ha1 j' want d hg hd)).1) (fun id hid => ?_)
      refine on_plainAt (fun id' c hb => ?_)
      obtain ⟨v', b', l'⟩ := qi
      cases b' with
      | none => simp [wrOf] at hb
      | some cs' =>
       simp [wrOf] at hb
       have := hs'.load id [base + boxNo ops.toList i] (by
        rw [on_ll_ne (by exact hij)]
        exact on_ll_self (by simp [wrOf, hid]) rfl hkj) (on_tl_self (by simp [wrOf]) rfl (by rw [on_tl_len]; exact hli))
       intro hh
       exact this (by simp; omega)
     rw [hqj1]
     simp only [Option.map_some, Option.some.injEq]
     exact Wr.comm (by exact ha2') (by exact fun h => hij h.symm) (fun id c id' c' hb hb' => Ne.symm (hboxes id' c' id c hb' hb)) r
  | true =>
   have hst := step_struck hj hEj hlj h1
   rw [step_quietly hi hEi] at h2
   cases hqi : quiet P ops.toList base i oi r1.env r1.sig r1.tl[i]? with
   | none => simp [hqi] at h2
   | some qi =>
    simp [hqi] at h2
    subst h2
    have hqi0 : quiet P ops.toList base i oi r.env r.sig r.tl[i]? = some qi := by
     rw [hst.tl i hij] at hqi
     refine quiet_congr hqi (fun x hx => ?_) (fun j' want d hg hd => (hst.truth d (hgd ha3 j' want d hg hd)).2) (fun id hid => (hst.sig id (fun ids hids => ?_)).symm)
     ·cases x with
      | tmp t => simp only [rd, rdF]; rw [hst.at_ t (fun hd => ha3 t hd (mem_looksAt_opnd hx))]
      | const v => rfl
      | func f => rfl
      | global g => rfl
     ·refine hs.load id ids (on_ll_self (by simp [wrOf, hid]) rfl (by rw [hst.lll]; exact hki)) ?_
      rw [on_tl_ne (by exact hij)]; exact hids
    refine ⟨(wrOf ops.toList base i oi qi).on r, by rw [step_quietly hi hEi, hqi0]; rfl, ?_⟩
    have hoff : Off ops.toList base j oj (wrOf ops.toList base i oi qi) := off_of hi hij hEi ha1 ha2 (haj.resolve_left (by simp [hEj])) rfl rfl (wrOf_box _) (wrOf_t _)
    refine hoff.step hj hEj h1 (fun id c hb ids hids => ?_) hlj (wrOf_news hqi0)
    obtain ⟨v', b', l'⟩ := qi
    cases b' with
    | none => simp [wrOf] at hb
    | some cs' =>
     simp [wrOf] at hb
     have hli1 : i < r1.tl.length := by rw [hst.len]; exact hli
     refine hs'.alloc (quiet_box hqi).1 [base + boxNo ops.toList i] ids id (by simp [Wr.on, wrOf, hli1]) ?_ (by simp [hb.1])
     rw [on_tl_ne (by exact hij)]; exact hids
 | true =>
  have hEj : isE oj = false := by rcases hEE with h | h; rw [hEi] at h; cases h; exact h
  rw [step_quietly hj hEj] at h1
  cases hqj : quiet P ops.toList base j oj r.env r.sig r.tl[j]? with
  | none => simp [hqj] at h1
  | some qj =>
   simp [hqj] at h1
   subst h1
   have hoff : ∀ q : Wr, q.dst = oj.dst -> q.at_ = j -> (∀ id c, q.box = some (id, c) -> base <= id) -> (∀ ids, q.t = some (some ids) -> ∀ id ∈ ids, base <= id) -> Off ops.toList base i oi q := fun q hq1 hq2 hq3 hq4 =>
    off_of hj (fun h => hij h.symm) hEj ha3 ha2' (hai.resolve_left (by simp [hEi])) hq1 hq2 hq3 hq4
   have hst2 := step_struck hi hEi (by rw [on_tl_len]; exact hli) h2
   have hseen : ∀ id c, (wrOf ops.toList base j oj qj).box = some (id, c) -> ∀ ids, r2.tl[i]? = some (some ids) -> id ∉ ids := by
    intro id c hb ids hids
    obtain ⟨v', b', l'⟩ := qj
    cases b' with
    | none => simp [wrOf] at hb
    | some cs' =>
     simp [wrOf] at hb
     refine hs.alloc (quiet_box hqj).1 [base + boxNo ops.toList j] ids id ?_ hids (by simp [hb.1])
     rw [hst2.tl j (fun h => hij h.symm)]
     simp [Wr.on, wrOf, hlj]
   obtain ⟨u, hu1, hu2, hu3, hu4, hu5, hu7, hu6⟩ := (wrOf ops.toList base j oj qj).undo r
   have hback := (hoff u hu1 hu2 (fun id c hb => by
    obtain ⟨c', hc'⟩ := hu5 id c hb
    exact wrOf_box _ id c' hc') (fun ids hids id hid => by
    have h3 := hu7 _ hids hlj
    have h5 : (wrOf ops.toList base j oj qj).t.isSome = true := by rw [<- hu4, hids]; rfl
    have h4 := wrOf_news hqj h5 ids h3
    exact h4 id hid)).step hi hEi h2 (fun id c hb ids hids => by
    obtain ⟨c', hc'⟩ := hu5 id c hb
    exact hseen id c' hc' ids hids) (by rw [on_tl_len]; exact hli) (fun h3 ids hids id hid => by
    rw [hu2] at hids
    obtain ⟨v', b', l'⟩ := qj
    cases b' with
    | none => rw [hu4] at h3; simp [wrOf] at h3
    | some cs' =>
     rw [on_tl_self (x := some [base + boxNo ops.toList j]) (by simp [wrOf]) rfl (by exact hlj)] at hids
     simp only [Option.some.injEq] at hids
     subst hids
     simp at hid
     omega)
   rw [hu6] at hback
   refine ⟨_, hback, ?_⟩
   have htl1 : (u.on r2).tl[i]? = r2.tl[i]? := on_tl_ne (by rw [hu2]; exact fun h => hij h.symm)
   have hst := step_struck hi hEi hli hback
   have hfwd := (hoff (wrOf ops.toList base j oj qj) rfl rfl (wrOf_box _) (wrOf_t _)).step hi hEi hback (fun id c hb ids hids => hseen id c hb ids (by rw [<- htl1]; exact hids)) hli (wrOf_news hqj)
   rw [h2] at hfwd
   simp only [Option.some.injEq] at hfwd
   rw [step_quietly hj hEj]
   have hqj1 : quiet P ops.toList base j oj (u.on r2).env (u.on r2).sig (u.on r2).tl[j]? = some qj := by
    rw [hst.tl j (fun h => hij h.symm)]
    refine quiet_congr hqj (fun x hx => ?_) (fun j' want d hg hd => (hst.truth d (hgd ha1 j' want d hg hd)).1) (fun id hid => hst.sig id (fun ids hids => ?_))
    ·cases x with
     | tmp t => simp only [rd, rdF]; rw [hst.at_ t (fun hd => ha1 t hd (mem_looksAt_opnd hx))]
     | const v => rfl
     | func f => rfl
     | global g => rfl
    ·refine hs'.load id ids ?_ (by rw [<- htl1]; exact hids)
     rw [hst2.ll j (fun h => hij h.symm)]
     exact on_ll_self (by simp [wrOf, hid]) rfl hkj
   rw [hqj1]
   simp only [Option.map_some, Option.some.injEq]
   exact hfwd.symm
end
end Go.Eng
