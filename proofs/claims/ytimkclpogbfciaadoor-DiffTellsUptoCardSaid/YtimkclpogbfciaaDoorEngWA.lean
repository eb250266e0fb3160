/- The engine: the symbolic walk is sound: first part, slots, guards, operations that turn nothing. -/
import Derived.Test.YtimkclpogbfciaaDoorEngW
import Derived.Test.YtimkclpogbfciaaDoorEngG
set_option linter.unusedVariables false
set_option linter.unusedSimpArgs false
namespace Go.Eng
theorem look_cons {α : Type} (d : Nat) (v : α) (r : List (Nat × α)) (k : Nat) : look ((d, v) :: r) k = if d = k then some v else look r k := by
 simp only [look]
 by_cases h : d = k
 ·simp [h]
 ·have : Nat.beq d k = false := by
   cases hb : Nat.beq d k with
   | false => rfl
   | true => exact absurd (Nat.eq_of_beq_eq_true hb) h
  simp [this, h]
theorem SEnv.at_of {E : SEnv} {d : Nat} {v : V} (h : look E d = some v) : E.at d = v := by simp only [SEnv.at, h]
theorem SEnv.look_of {E : SEnv} {d : Nat} {v : V} (h : E.at d = v) (hv : v ≠ .any) : look E d = some v := by
 unfold SEnv.at at h
 split at h
 ·rename_i u hu; rw [hu, h]
 ·exact absurd h.symm hv
theorem SEnv.put_at (E : SEnv) (d : Nat) (v : V) (k : Nat) : (E.put (some d) v).at k = if d = k then v else E.at k := by
 simp only [SEnv.put, SEnv.at, look_cons]
 by_cases h : d = k <;> simp [h]
theorem SEnv.env_length (n : Nat) (E : SEnv) : (E.env n).length = n := by simp [SEnv.env]
theorem SEnv.env_at {n : Nat} {E : SEnv} {d : Nat} (h : d < n) : (E.env n).at d = E.at d := by
 simp [SEnv.env, Env.at, h]
theorem chainB_cons (f : Nat -> V) (s : Nat) (w : Bool) (r : Chain) : chainB f ((s, w) :: r) = (chainB f r && lit w (truthOf (f s))) := by
 cases r with
 | nil => simp [chainB]
 | cons p r => rw [chainB]; simp
theorem chainB_iff (f : Nat -> V) : ∀ (c : Chain), chainB f c = true ↔ ∀ p ∈ c, lit p.2 (truthOf (f p.1)) = true
 | [] => by simp [chainB]
 | (s, w) :: r => by
  rw [chainB_cons, Bool.and_eq_true, chainB_iff f r]
  simp only [List.mem_cons, forall_eq_or_imp]
  exact And.comm
theorem chainB_congr {f g : Nat -> V} {c : Chain} (h : ∀ p ∈ c, truthOf (f p.1) = truthOf (g p.1)) : chainB f c = chainB g c := by
 apply Bool.eq_iff_iff.2
 rw [chainB_iff, chainB_iff]
 constructor
 ·intro hh p hp; rw [<- h p hp]; exact hh p hp
 ·intro hh p hp; rw [h p hp]; exact hh p hp
theorem chainB_within {f : Nat -> V} {a c : Chain} (h : within a c = true) (hc : chainB f c = true) : chainB f a = true := by
 rw [chainB_iff] at hc ⊢
 intro p hp
 have h1 := List.all_eq_true.1 h p hp
 simp only [inChain, List.any_eq_true, Bool.and_eq_true, beq_iff_eq] at h1
 obtain ⟨q, hq, h2, h3⟩ := h1
 have := hc q hq
 rw [Nat.eq_of_beq_eq_true h2, h3] at this
 exact this
structure RelE (n : Nat) (e : Env) (E : SEnv) (ch : List (Nat × Chain)) : Prop where
 len : e.length = n
 on : ∀ d v, d < n -> look E d = some v -> chainB E.at ((look ch d).getD []) = true -> e.at d = v
 off : ∀ d, d < n -> (look E d).isSome = true -> chainB E.at ((look ch d).getD []) = false -> e.at d = .undef
structure TlRel (a b g : List (Option (List Nat))) : Prop where
 len : a.length = b.length
 lenG : g.length = b.length
 same : ∀ i : Nat, g[i]? = some none -> a[i]? = b[i]?
 may : ∀ (i : Nat) (ids : List Nat), g[i]? = some (some ids) -> b[i]? = some none /\ (a[i]? = some none \/ a[i]? = some (some ids))
def LlRel (a b : List (Option Nat)) : Prop := a.length = b.length /\ ∀ i : Nat, a[i]? = b[i]? \/ a[i]? = some none
structure RelX (n : Nat) (r : R) (x : X) : Prop where
 E : RelE n r.env x.env x.ch
 sig : r.sig = x.sig
 tl : TlRel r.tl x.tl x.gl
 ll : LlRel r.ll x.ll
theorem LlRel.refl (a : List (Option Nat)) : LlRel a a := ⟨rfl, fun _ => .inl rfl⟩
theorem freshG_some {g : List (Option (List Nat))} {i : Nat} (h : freshG g i = true) : g[i]? = some none := by
 unfold freshG at h
 split at h
 ·assumption
 ·cases h
theorem TlRel.set {a b g : List (Option (List Nat))} (h : TlRel a b g) {i : Nat} (hg : freshG g i = true) (t : Option (List Nat)) : TlRel (a.set i t) (b.set i t) g := by
 have hgi := freshG_some hg
 have hl : i < g.length := (List.getElem?_eq_some_iff.1 hgi).1
 refine ⟨by simp [h.len], by simp [h.lenG], fun k hk => ?_, fun k ids hk => ?_⟩
 ·by_cases hik : i = k
  ·subst hik
   rw [List.getElem?_set_self (by rw [h.len, <- h.lenG]; exact hl), List.getElem?_set_self (by rw [<- h.lenG]; exact hl)]
  ·rw [List.getElem?_set_ne hik, List.getElem?_set_ne hik]; exact h.same k hk
 ·have hik : i ≠ k := fun hh => by subst hh; rw [hgi] at hk; cases hk
  rw [List.getElem?_set_ne hik, List.getElem?_set_ne hik]; exact h.may k ids hk
theorem TlRel.guarded {a b g : List (Option (List Nat))} (h : TlRel a b g) {i : Nat} (hg : freshG g i = true) (hb : b[i]? = some none) (ids : List Nat) {a' : List (Option (List Nat))} (ha : a' = a.set i (some ids) \/ a' = a) : TlRel a' b (g.set i (some ids)) := by
 have hgi := freshG_some hg
 have hl : i < g.length := (List.getElem?_eq_some_iff.1 hgi).1
 have hla : i < a.length := by rw [h.len, <- h.lenG]; exact hl
 refine ⟨by rcases ha with rfl | rfl <;> simp [h.len], by simp [h.lenG], fun k hk => ?_, fun k js hk => ?_⟩
 ·have hik : i ≠ k := fun hh => by subst hh; rw [List.getElem?_set_self hl] at hk; cases hk
  rw [List.getElem?_set_ne hik] at hk
  rcases ha with rfl | rfl
  ·rw [List.getElem?_set_ne hik]; exact h.same k hk
  ·exact h.same k hk
 ·by_cases hik : i = k
  ·subst hik
   rw [List.getElem?_set_self hl] at hk
   simp only [Option.some.injEq] at hk
   subst hk
   refine ⟨hb, ?_⟩
   rcases ha with rfl | rfl
   ·right; rw [List.getElem?_set_self hla]
   ·left; rw [h.same i hgi]; exact hb
  ·rw [List.getElem?_set_ne hik] at hk
   rcases ha with rfl | rfl
   ·rw [List.getElem?_set_ne hik]; exact h.may k js hk
   ·exact h.may k js hk
theorem LlRel.set {a b : List (Option Nat)} (h : LlRel a b) (i : Nat) (t : Option Nat) : LlRel (a.set i t) (b.set i t) := by
 refine ⟨by simp [h.1], fun k => ?_⟩
 by_cases hk : i = k
 ·subst hk; left
  by_cases hl : i < a.length
  ·rw [List.getElem?_set_self hl, List.getElem?_set_self (by rw [<- h.1]; exact hl)]
  ·rw [List.getElem?_eq_none (by simpa using hl), List.getElem?_eq_none (by simpa [<- h.1] using hl)]
 ·rw [List.getElem?_set_ne hk, List.getElem?_set_ne hk]; exact h.2 k
theorem TlRel.all {a b g : List (Option (List Nat))} (h : TlRel a b g) (f : Option (List Nat) -> Bool) (h0 : f none = true) (hg : g.all f = true) : a.all f = b.all f := by
 apply Bool.eq_iff_iff.2
 rw [List.all_eq_true, List.all_eq_true]
 rw [List.all_eq_true] at hg
 have key : ∀ (i : Nat), i < g.length -> g[i]? = some none \/ ∃ ids, g[i]? = some (some ids) := by
  intro i hi
  cases hx : g[i]? with
  | none => rw [List.getElem?_eq_none_iff] at hx; omega
  | some t => cases t with
   | none => exact .inl rfl
   | some ids => exact .inr ⟨ids, rfl⟩
 constructor
 ·intro hh t ht
  obtain ⟨i, hi⟩ := List.mem_iff_getElem?.1 ht
  rcases key i (by rw [h.lenG]; exact (List.getElem?_eq_some_iff.1 hi).1) with k | ⟨ids, k⟩
  ·exact hh t (List.mem_iff_getElem?.2 ⟨i, (h.same i k).trans hi⟩)
  ·rw [(h.may i ids k).1] at hi
   simp only [Option.some.injEq] at hi
   rw [<- hi]; exact h0
 ·intro hh t ht
  obtain ⟨i, hi⟩ := List.mem_iff_getElem?.1 ht
  rcases key i (by rw [h.lenG, <- h.len]; exact (List.getElem?_eq_some_iff.1 hi).1) with k | ⟨ids, k⟩
  ·exact hh t (List.mem_iff_getElem?.2 ⟨i, (h.same i k).symm.trans hi⟩)
  ·rcases (h.may i ids k).2 with q | q
   ·rw [q] at hi; simp only [Option.some.injEq] at hi; rw [<- hi]; exact h0
   ·rw [q] at hi; simp only [Option.some.injEq] at hi; rw [<- hi]; exact hg _ (List.mem_iff_getElem?.2 ⟨i, k⟩)
theorem TlRel.all_le {a b g : List (Option (List Nat))} (h : TlRel a b g) (f : Option (List Nat) -> Bool) (h0 : f none = true) (ha : a.all f = true) : b.all f = true := by
 rw [List.all_eq_true] at ha ⊢
 intro t ht
 obtain ⟨i, hi⟩ := List.mem_iff_getElem?.1 ht
 have hlt := (List.getElem?_eq_some_iff.1 hi).1
 cases hx : g[i]? with
 | none => rw [List.getElem?_eq_none_iff] at hx; rw [h.lenG] at hx; omega
 | some u => cases u with
  | none => exact ha t (List.mem_iff_getElem?.2 ⟨i, (h.same i hx).trans hi⟩)
  | some ids =>
   rw [(h.may i ids hx).1] at hi
   simp only [Option.some.injEq] at hi
   rw [<- hi]; exact h0
theorem mergeC_some {q : Bool} {a b v : V} (hm : ∀ {a b v : V}, mergeV q a b = some v -> v = bif q then a else b) (h : mergeC q a b = some v) : v = bif q then a else b := by
 unfold mergeC at h
 split at h
 ·split at h
  ·rename_i hk; subst hk; simp only [Option.some.injEq] at h; subst h; cases q <;> rfl
  ·cases h
 ·split at h
  ·rename_i hk; subst hk; simp only [Option.some.injEq] at h; subst h; cases q <;> rfl
  ·cases h
 ·split at h
  ·rename_i hk; obtain ⟨rfl, rfl⟩ := hk; simp only [Option.some.injEq] at h; subst h; cases q <;> rfl
  ·cases h
 ·exact hm h
theorem mergeCells_some {q : Bool} (hm : ∀ {a b v : V}, mergeV q a b = some v -> v = bif q then a else b) : ∀ {as bs vs : List V}, mergeCells q as bs = some vs -> vs = bif q then as else bs
 | [], [], vs, h => by simp only [mergeCells, Option.some.injEq] at h; subst h; cases q <;> rfl
 | a :: as, b :: bs, vs, h => by
  simp only [mergeCells] at h
  split at h
  ·rename_i x xs h1 h2
   simp only [Option.some.injEq] at h
   subst h
   rw [mergeC_some hm h1, mergeCells_some hm h2]
   cases q <;> rfl
  ·cases h
 | [], _ :: _, vs, h => by simp [mergeCells] at h
 | _ :: _, [], vs, h => by simp [mergeCells] at h
theorem mergeSig_false {sig3 : Sig} (hm : ∀ {a b v : V}, mergeV false a b = some v -> v = bif false then a else b) : ∀ {r : List Nat} {s t : Sig}, mergeSig false sig3 r s = some t -> t = s
 | [], s, t, h => by simp only [mergeSig, Option.some.injEq] at h; exact h.symm
 | id :: r, s, t, h => by
  simp only [mergeSig] at h
  split at h
  ·rename_i a b ha hb
   split at h
   ·rename_i m hmm
    have hmv := mergeCells_some hm hmm
    simp only [cond_false] at hmv
    subst hmv
    have hlt : id < s.length := (List.getElem?_eq_some_iff.1 hb).1
    have hset : s.set id (some m) = s := by
     refine List.ext_getElem? (fun k => ?_)
     by_cases hik : id = k
     ·subst hik; rw [List.getElem?_set_self hlt]; exact hb.symm
     ·rw [List.getElem?_set_ne hik]
    rw [hset] at h
    exact mergeSig_false hm h
   ·cases h
  ·cases h
theorem mergeSig_some {q : Bool} (hm : ∀ {a b v : V}, mergeV q a b = some v -> v = bif q then a else b) {sig3 : Sig} : ∀ {roots : List Nat} {s t : Sig}, mergeSig q sig3 roots s = some t -> s.length = sig3.length -> (∀ id : Nat, id ∉ roots -> sig3[id]? = s[id]?) -> t = bif q then sig3 else s
 | [], s, t, h, hl, hs => by
  simp only [mergeSig, Option.some.injEq] at h
  subst h
  cases q with
  | true => exact (List.ext_getElem? (fun i => hs i (by simp))).symm
  | false => rfl
 | id :: r, s, t, h, hl, hs => by
  simp only [mergeSig] at h
  split at h
  ·rename_i a b ha hb
   split at h
   ·rename_i m hmm
    have hmv := mergeCells_some hm hmm
    have hlt : id < s.length := (List.getElem?_eq_some_iff.1 hb).1
    cases q with
    | true =>
     simp only [cond_true] at hmv ⊢
     subst hmv
     refine mergeSig_some (q := true) hm h (by simp [hl]) (fun k hk => ?_)
     by_cases hik : id = k
     ·subst hik; rw [List.getElem?_set_self hlt]; exact ha
     ·rw [List.getElem?_set_ne hik]; exact hs k (by simp [hk, Ne.symm hik])
    | false =>
     simp only [cond_false] at hmv ⊢
     subst hmv
     have hset : s.set id (some m) = s := by
      refine List.ext_getElem? (fun k => ?_)
      by_cases hik : id = k
      ·subst hik; rw [List.getElem?_set_self hlt]; exact hb.symm
      ·rw [List.getElem?_set_ne hik]
     rw [hset] at h
     have gen : ∀ (r : List Nat) {t : Sig}, mergeSig false sig3 r s = some t -> t = s := by
      intro r
      induction r with
      | nil => intro t h; simp only [mergeSig, Option.some.injEq] at h; exact h.symm
      | cons id r ih =>
       intro t h
       simp only [mergeSig] at h
       split at h
       ·rename_i a b ha hb
        split at h
        ·rename_i m hmm
         have hmv := mergeCells_some hm hmm
         simp only [cond_false] at hmv
         subst hmv
         have hlt : id < s.length := (List.getElem?_eq_some_iff.1 hb).1
         have hset : s.set id (some m) = s := by
          refine List.ext_getElem? (fun k => ?_)
          by_cases hik : id = k
          ·subst hik; rw [List.getElem?_set_self hlt]; exact hb.symm
          ·rw [List.getElem?_set_ne hik]
         rw [hset] at h
         exact ih h
        ·cases h
       ·cases h
     exact gen r h
   ·cases h
  ·cases h
section
variable {P : Program} {n : Nat} {e : Env} {x : X} {r : R} {c : Chain} {o : Oper} {ops : List Oper}
theorem dstOk_some {d : Nat} (h : dstOk n x c (some d) = true) : d < n /\ (∀ p ∈ c, p.1 ≠ d) /\ ∀ k, ∀ p ∈ (look x.ch k).getD [], p.1 ≠ d := by
 simp only [dstOk, Bool.and_eq_true, decide_eq_true_eq, List.all_eq_true, Bool.not_eq_true'] at h
 obtain ⟨⟨h1, h2⟩, h3⟩ := h
 have nb : ∀ a b : Nat, Nat.beq a b = false -> a ≠ b := by
  intro a b hb hab
  subst hab
  simp at hb
 refine ⟨h1, fun p hp => nb _ _ (h2 p hp), fun k p hp => ?_⟩
 have hl : ∀ (l : List (Nat × Chain)) (cc : Chain), look l k = some cc -> ∃ q ∈ l, q.2 = cc := by
  intro l
  induction l with
  | nil => intro cc h; simp [look] at h
  | cons q l ih =>
   obtain ⟨d', v⟩ := q
   intro cc h
   rw [look_cons] at h
   split at h
   ·simp only [Option.some.injEq] at h; exact ⟨(d', v), by simp, h⟩
   ·obtain ⟨q, hq, hv⟩ := ih cc h
    exact ⟨q, by simp [hq], hv⟩
 cases hk : look x.ch k with
 | none => simp [hk] at hp
 | some cc =>
  simp only [hk, Option.getD_some] at hp
  obtain ⟨q, hq, rfl⟩ := hl _ _ hk
  exact nb _ _ (h3 q hq p hp)
theorem chainB_put {E : SEnv} {d : Nat} {v : V} {c : Chain} (h : ∀ p ∈ c, p.1 ≠ d) : chainB (E.put (some d) v).at c = chainB E.at c :=
 chainB_congr fun p hp => by rw [SEnv.put_at, if_neg (fun hh => h p hp hh.symm)]
theorem at_set_self {e : Env} {d : Nat} {v : V} (h : d < e.length) : Env.at (e.set d v) d = v := by simp [Env.at, h]
theorem at_set_ne {e : Env} {d k : Nat} {v : V} (h : d ≠ k) : Env.at (e.set d v) k = e.at k := by simp [Env.at, List.getElem?_set_ne h]
theorem RelE.put (h : RelE n e x.env x.ch) {dst : Option Nat} (hd : dstOk n x c dst = true) (v : V) {u : V} (hon : chainB x.env.at c = true -> u = v) (hoff : chainB x.env.at c = false -> u = .undef) :
  RelE n (e.put dst u) (x.put dst v c).env (x.put dst v c).ch := by
 cases dst with
 | none => exact h
 | some d =>
  obtain ⟨h1, h2, h3⟩ := dstOk_some hd
  have hch : ∀ k, (look ((d, c) :: x.ch) k).getD [] = if d = k then c else (look x.ch k).getD [] := by
   intro k; rw [look_cons]; split <;> rfl
  refine ⟨by simp [Env.put, h.len], fun k w hk hw hc => ?_, fun k hk hw hc => ?_⟩
  ·simp only [X.put, SEnv.put] at hw hc
   rw [look_cons] at hw
   rw [hch] at hc
   by_cases hdk : d = k
   ·subst hdk
    simp only [if_true, Option.some.injEq] at hw hc
    rw [show ((d, v) :: x.env : SEnv) = x.env.put (some d) v from rfl, chainB_put h2] at hc
    rw [Env.put, at_set_self (by rw [h.len]; exact h1), <- hw]
    exact hon hc
   ·simp only [hdk, if_false] at hw hc
    rw [show ((d, v) :: x.env : SEnv) = x.env.put (some d) v from rfl, chainB_put (h3 k)] at hc
    rw [Env.put, at_set_ne hdk]
    exact h.on k w hk hw hc
  ·simp only [X.put, SEnv.put] at hw hc
   rw [look_cons] at hw
   rw [hch] at hc
   by_cases hdk : d = k
   ·subst hdk
    simp only [if_true] at hc
    rw [show ((d, v) :: x.env : SEnv) = x.env.put (some d) v from rfl, chainB_put h2] at hc
    rw [Env.put, at_set_self (by rw [h.len]; exact h1)]
    exact hoff hc
   ·simp only [hdk, if_false] at hw hc
    rw [show ((d, v) :: x.env : SEnv) = x.env.put (some d) v from rfl, chainB_put (h3 k)] at hc
    rw [Env.put, at_set_ne hdk]
    exact h.off k hk hw hc
theorem RelE.opnd (h : RelE n e x.env x.ch) (hc : chainB x.env.at c = true) {xo : Operand} (hx : opndOk n x c xo = true) : rdF e.at xo = rdF x.env.at xo := by
 cases xo with
 | tmp d =>
  simp only [opndOk, Bool.and_eq_true, decide_eq_true_eq] at hx
  obtain ⟨⟨h1, h2⟩, h3⟩ := hx
  obtain ⟨v, hv⟩ := Option.isSome_iff_exists.1 h2
  have := h.on d v h1 hv (chainB_within h3 hc)
  simp only [rdF, this, SEnv.at_of hv]
 | _ => rfl
theorem RelE.slot (h : RelE n e x.env x.ch) (hc : chainB x.env.at c = true) {d : Nat} (hx : opndOk n x c (.tmp d) = true) : e.at d = x.env.at d /\ d < n := by
 simp only [opndOk, Bool.and_eq_true, decide_eq_true_eq] at hx
 obtain ⟨⟨h1, h2⟩, h3⟩ := hx
 obtain ⟨v, hv⟩ := Option.isSome_iff_exists.1 h2
 exact ⟨by rw [h.on d v h1 hv (chainB_within h3 hc), SEnv.at_of hv], h1⟩
theorem lit_beq (w b : Bool) : lit w b = (b == w) := by cases w <;> cases b <;> rfl
theorem guardX_ok (h : RelE n e x.env x.ch) (hg : guardX ops n x o = some c) : wantedV ops e o = some (chainB x.env.at c) := by
 unfold guardX at hg
 unfold wantedV
 cases hgd : o.guard with
 | none =>
  simp only [hgd, Option.some.injEq] at hg ⊢
  subst hg; rfl
 | some p =>
  obtain ⟨j, want⟩ := p
  simp only [hgd] at hg ⊢
  cases hd : (ops[j]?).bind (·.dst) with
  | none => simp only [hd] at hg; cases hg
  | some d =>
   simp only [hd] at hg ⊢
   split at hg
   ·rename_i hh
    obtain ⟨h1, h2⟩ := hh
    simp only [Option.some.injEq] at hg
    subst hg
    have hb : ∃ b, x.env.at d = .t (.sc (.bool b)) := by
     unfold isTruth at h2
     split at h2
     ·exact ⟨_, by assumption⟩
     ·cases h2
    obtain ⟨b, hb⟩ := hb
    have hlk := SEnv.look_of hb (by simp)
    have he : e[d]? = some (e.at d) := by
     have : d < e.length := by rw [h.len]; exact h1
     simp [Env.at, this]
    rw [he, chainB_cons, hb]
    simp only [truthOf, lit_beq]
    cases hc : chainB x.env.at (x.chain d) with
    | true =>
     have := h.on d _ h1 hlk hc
     rw [this]; simp
    | false =>
     have := h.off d h1 (by simp [hlk]) hc
     rw [this]; simp
   ·cases hg
end
theorem fitsCell_as {k : CK} {t : T} (h : fitsCell k t = true) : asCell k t = t := by
 unfold fitsCell at h
 split at h
 ·rename_i k k' a; simp only [decide_eq_true_eq] at h; subst h; rfl
 ·rfl
 ·rfl
 ·rename_i k k' a b; simp only [decide_eq_true_eq] at h; subst h; rfl
 ·rfl
 ·cases h
theorem fitsL_as : ∀ {sh : List CK} {y : T} {i : Nat} {ts : List T}, fitsL sh ts = true -> (∀ k t, ts[k]? = some t -> y.cell (i + k) = t) -> asCells sh i y = ts /\ sh.length = ts.length
 | [], y, i, [], _, _ => ⟨rfl, rfl⟩
 | c :: cs, y, i, t :: ts, h, hc => by
  simp only [fitsL, Bool.and_eq_true] at h
  have h0 := hc 0 t (by simp)
  obtain ⟨h1, h2⟩ := fitsL_as (i := i + 1) h.2 (fun k u hu => by have := hc (k + 1) u (by simpa using hu); rw [<- this]; congr 1; omega)
  simp only [asCells, Nat.add_zero] at h0 ⊢
  rw [h0, fitsCell_as h.1, h1]
  exact ⟨rfl, by simp [h2]⟩
 | [], y, i, _ :: _, h, _ => by simp [fitsL] at h
 | _ :: _, y, i, [], h, _ => by simp [fitsL] at h
theorem fits_as {sh : List CK} {y : T} (h : fits sh y = true) : asCells sh 0 y = y.cells /\ sh.length = y.cells.length :=
 fitsL_as h (fun k t hk => by simp [T.cell, hk])
theorem idx_some {sh : List CK} {es : List T} {k : Int} {y : T} (h : idx true sh es k = some y) : 0 <= k /\ es[k.toNat]? = some y /\ fits sh y = true := by
 unfold idx at h
 simp only [cond_true] at h
 cases hk : decide (0 <= k) with
 | false => simp [hk] at h
 | true =>
  simp only [hk, cond_true] at h
  split at h
  ·rename_i z hz
   cases hf : fits sh z with
   | false => simp [hf] at h
   | true => simp [hf] at h; subst h; exact ⟨by simpa using hk, hz, hf⟩
  ·cases h
theorem idx1_some {k0 : CK} {es : List T} {k : Int} {y : T} (h : idx1 true k0 es k = some y) : 0 <= k /\ es[k.toNat]? = some y /\ fitsCell k0 y = true := by
 unfold idx1 at h
 simp only [cond_true] at h
 cases hk : decide (0 <= k) with
 | false => simp [hk] at h
 | true =>
  simp only [hk, cond_true] at h
  split at h
  ·rename_i z hz
   cases hf : fitsCell k0 z with
   | false => simp [hf] at h
   | true => simp [hf] at h; subst h; exact ⟨by simpa using hk, hz, hf⟩
  ·cases h
theorem tsOf_some : ∀ {vs : List V} {es : List T}, tsOf vs = some es -> vs = es.map V.t
 | [], es, h => by simp only [tsOf, Option.some.injEq] at h; subst h; rfl
 | v :: vs, es, h => by
  cases v with
  | t x =>
   simp only [tsOf] at h
   cases hv : tsOf vs with
   | none => simp [hv] at h
   | some us => simp [hv] at h; subst h; simp [tsOf_some hv]
  | _ => simp [tsOf] at h
theorem bidx_some {s : ByteArray} {k : Int} {b : UInt8} (h : bidx true s k = some b) : 0 <= k /\ s[k.toNat]? = some b := by
 unfold bidx at h
 simp only [cond_true] at h
 cases hk : decide (0 <= k) with
 | false => simp [hk] at h
 | true => simp only [hk, cond_true] at h; exact ⟨by simpa using hk, h⟩
theorem must_some {R : Type} {c φ : Bool} {q : Option R} {r : R} (h : must c φ q = some r) : (c = true -> φ = true) /\ q = some r := by
 unfold must at h
 cases c <;> cases φ <;> simp_all
theorem mergeV_some {q : Bool} {a b v : V} (h : mergeV q a b = some v) : v = bif q then a else b := by
 unfold mergeV at h
 split at h
 ·simp only [Option.some.injEq] at h; subst h; cases q <;> rfl
 ·split at h
  ·rename_i hk; subst hk; simp only [Option.some.injEq] at h; subst h; cases q <;> rfl
  ·cases h
 ·simp only [Option.some.injEq] at h; subst h; cases q <;> rfl
 ·simp only [Option.some.injEq] at h; subst h; cases q <;> rfl
 ·cases h
section
variable {P : Program} {f : Nat -> V} {sig : Sig} {c : Chain} {o : Oper} {R : Type}
theorem runPure_bind {α β : Type} : ∀ (s : Sem α) (k : α -> Sem β), runPure P (s >>= k) = (runPure P s).bind fun a => runPure P (k a) := by
 intro s
 show ∀ k, runPure P (Sem.bind s k) = _
 induction s with
 | pure a => intro k; rfl
 | program g ih => intro k; exact ih P k
 | _ => intro k; rfl
theorem runPure_pure {α : Type} (a : α) : runPure P (pure a : Sem α) = some a := rfl
theorem scalar_of {ρ : Operand -> Option V} {v : Value} (h1 : o.op.operands.toList.all (isSc ρ) = true) (h2 : runPure P (execOp (rdV ρ) o) = some (.value v)) (h3 : flat v = true) : scalar P ρ o = some (.t (.sc v)) := by
 unfold scalar
 rw [if_pos h1, h2]
 simp only [h3, if_true]
theorem isSc_of {ρ : Operand -> Option V} {x : Operand} {v : Value} (h : ρ x = some (.t (.sc v))) : isSc ρ x = true := by simp only [isSc, h]
theorem rdV_of {ρ : Operand -> Option V} {x : Operand} {v : Value} (h : ρ x = some (.t (.sc v))) : rdV ρ x = v := by simp only [rdV, h]
theorem runPure_map {α β : Type} (g : α -> β) (s : Sem α) : runPure P (g <$> s) = (runPure P s).map g := by
 show runPure P (Sem.bind s _) = _
 rw [show Sem.bind s _ = (s >>= (Sem.pure ∘ g)) from rfl, runPure_bind]
 cases runPure P s <;> rfl
theorem runPure_under {t : TypeId} {d : TypeDesc} (h : P.underlying t = some d) : runPure P (underlying t) = some d := by
 unfold underlying
 rw [runPure_bind]
 have : runPure P program = some P := rfl
 rw [this, Option.bind_some]
 simp only [h]
 rfl
theorem intOp_val {ρ : Operand -> Option V} {x : Operand} {i : Int} (h : intOp ρ (some x) = some (some i)) : ∃ k, ρ x = some (.t (.sc (.int k i))) := by
 simp only [intOp] at h
 split at h
 ·rename_i k j hk
  simp only [Option.some.injEq] at h
  subst h
  exact ⟨k, hk⟩
 ·cases h
theorem bound_pure {k : IntKind} {i : Int} {y : Nat} {code : BoundsCode} (h1 : 0 <= i) (h2 : i <= y) : runPure P (Instr.sliceBound (.int k i) y code) = some i.toNat := by
 simp only [Instr.sliceBound, asIntOf]
 simp only [runPure_bind, runPure_pure, Option.bind_some]
 rw [if_pos ⟨h1, h2⟩]
 rfl
theorem slice_string {t : TypeId} {x : Operand} {lo hi : Option Operand} (hop : o.op = .slice t x lo hi none) {s : ByteArray} {l h : Option Int} (hx : rdF f x = some (.t (.sc (.string s)))) (hu : P.underlying t = some .string)
  (hl : intOp (rdF f) lo = some l) (hh : intOp (rdF f) hi = some h) (h1 : 0 <= l.getD 0) (h2 : l.getD 0 <= h.getD s.size) (h3 : h.getD s.size <= s.size) :
  scalar P (rdF f) o = some (.t (.sc (.string (s.extract (l.getD 0).toNat (h.getD s.size).toNat)))) := by
 have hlo : (lo = none /\ l = none) \/ ∃ y k i, lo = some y /\ rdF f y = some (.t (.sc (.int k i))) /\ l = some i := by
  cases lo with
  | none => simp only [intOp, Option.some.injEq] at hl; exact .inl ⟨rfl, hl.symm⟩
  | some y =>
   cases l with
   | none => simp only [intOp] at hl; split at hl <;> simp at hl
   | some i => obtain ⟨k, hk⟩ := intOp_val hl; exact .inr ⟨y, k, i, rfl, hk, rfl⟩
 have hhi : (hi = none /\ h = none) \/ ∃ y k i, hi = some y /\ rdF f y = some (.t (.sc (.int k i))) /\ h = some i := by
  cases hi with
  | none => simp only [intOp, Option.some.injEq] at hh; exact .inl ⟨rfl, hh.symm⟩
  | some y =>
   cases h with
   | none => simp only [intOp] at hh; split at hh <;> simp at hh
   | some i => obtain ⟨k, hk⟩ := intOp_val hh; exact .inr ⟨y, k, i, rfl, hk, rfl⟩
 refine scalar_of ?_ ?_ rfl
 ·rw [List.all_eq_true]
  intro y hy
  simp only [hop, Op.operands] at hy
  simp at hy
  rcases hy with rfl | hy | hy
  ·exact isSc_of hx
  ·rcases hlo with ⟨h1, _⟩ | ⟨y', k, i, h1, h2, _⟩
   ·rw [h1] at hy; cases hy
   ·rw [h1] at hy; simp only [Option.some.injEq] at hy; subst hy; exact isSc_of h2
  ·rcases hhi with ⟨h1, _⟩ | ⟨y', k, i, h1, h2, _⟩
   ·rw [h1] at hy; cases hy
   ·rw [h1] at hy; simp only [Option.some.injEq] at hy; subst hy; exact isSc_of h2
 ·have hcat : (0 : Int) <= s.size := by omega
  simp only [execOp, hop, rdV_of hx, Option.map_none]
  rw [runPure_bind]
  simp only [Instr.sliceAt]
  rw [runPure_bind, runPure_under hu, Option.bind_some]
  simp only [Instr.slice]
  rw [runPure_bind, runPure_under hu, Option.bind_some]
  simp only [Option.isSome_none, Bool.false_eq_true, if_false]
  simp only [Instr.sliceBounds, runPure_bind, runPure_pure, Option.bind_some]
  have red : ∀ (i : Int), i.toNat <= s.size -> ((i.toNat : Nat) : Int) = i \/ i < 0 := fun i _ => by omega
  rcases hlo with ⟨rfl, rfl⟩ | ⟨y, k, i, rfl, hy, rfl⟩ <;> rcases hhi with ⟨rfl, rfl⟩ | ⟨y', k', i', rfl, hy', rfl⟩ <;> simp only [Option.getD_none, Option.getD_some] at h1 h2 h3
  ·simp [runPure_pure]
  ·simp only [Option.map_none, Option.map_some, rdV_of hy', runPure_bind, Option.getD_some, Option.getD_none]
   rw [bound_pure (by omega) (by omega)]; simp [runPure_pure]
  ·simp only [Option.map_none, Option.map_some, rdV_of hy, runPure_bind, Option.getD_some, Option.getD_none, runPure_pure, Option.bind_some]
   rw [bound_pure (by omega) (by omega)]; simp [runPure_pure]
  ·simp only [Option.map_none, Option.map_some, rdV_of hy, rdV_of hy', runPure_bind, Option.getD_some, Option.getD_none]
   rw [bound_pure (by omega) (by omega)]; simp only [Option.bind_some]; rw [bound_pure (by omega) (by omega)]; simp [runPure_pure]
def Brings (P : Program) (f : Nat -> V) (sig : Sig) (c : Chain) (o : Oper) (K : V -> Option Nat -> Option R) (r : R) : Prop :=
 ∃ v ld, (chainB f c = true -> evN P (rdF f) sig o = some (v, ld)) /\ K v ld = some r
theorem brings_direct {K : V -> Option Nat -> Option R} {r : R} (h : directM P f sig o K = some r) : Brings P f sig c o K r := by
 unfold directM at h
 split at h
 ·rename_i v ld hv
  exact ⟨v, ld, fun _ => hv, h⟩
 ·cases h
theorem flo_some {r : Option Nat} {q : Nat} (h : flo true r = some q) : r = some q := h
theorem floatArith_run {b : BinOp} {k : FloatKind} {x y q : Nat} (hb : (b = .add /\ k.format.add x y = some q) \/ (b = .sub /\ k.format.sub x y = some q)) : runPure P (Op.floatArith b k x y) = some (.float k q) := by
 rcases hb with ⟨rfl, h⟩ | ⟨rfl, h⟩ <;> simp only [Op.floatArith, runPure_bind, runPure_pure, Option.bind_some, h]
theorem cArith_run {b : BinOp} {k : FloatKind} {x y q : Nat} (hb : (b = .add /\ k.format.add x y = some q) \/ (b = .sub /\ k.format.sub x y = some q)) : runPure P (Op.Complex.arith b k x y) = some q := by
 simp only [Op.Complex.arith, runPure_bind, floatArith_run hb, Option.bind_some, runPure_pure]
theorem cOp_run {b : BinOp} {k : FloatKind} {x y x' y' q q' : Nat} (hb : (b = .add /\ k.format.add x y = some q /\ k.format.add x' y' = some q') \/ (b = .sub /\ k.format.sub x y = some q /\ k.format.sub x' y' = some q')) : runPure P (Op.complexOp b k x x' y y') = some (.complex k q q') := by
 rcases hb with ⟨rfl, h, h'⟩ | ⟨rfl, h, h'⟩
 ·simp only [Op.complexOp, runPure_bind, cArith_run (.inl ⟨rfl, h⟩), cArith_run (.inl ⟨rfl, h'⟩), Option.bind_some, runPure_pure]
 ·simp only [Op.complexOp, runPure_bind, cArith_run (.inr ⟨rfl, h⟩), cArith_run (.inr ⟨rfl, h'⟩), Option.bind_some, runPure_pure]
theorem fl_run {ρ : Operand -> Value} {b : BinOp} {t ty : TypeId} {x y : Operand} {k : FloatKind} {u v q : Nat} (hop : o.op = .binOp b t x y ty) (hx : ρ x = .float k u) (hy : ρ y = .float k v) (h : (b = .add /\ k.format.add u v = some q) \/ (b = .sub /\ k.format.sub u v = some q)) : runPure P (execOp ρ o) = some (.value (.float k q)) := by
 have := floatArith_run (P := P) h
 rcases h with ⟨rfl, h⟩ | ⟨rfl, h⟩ <;> simp [execOp, hop, hx, hy, binOp, eqGuard, runPure_map, this]
theorem cx_run {ρ : Operand -> Value} {b : BinOp} {t ty : TypeId} {x y : Operand} {k : FloatKind} {u v q u' v' q' : Nat} (hop : o.op = .binOp b t x y ty) (hx : ρ x = .complex k u u') (hy : ρ y = .complex k v v') (h : (b = .add /\ k.format.add u v = some q /\ k.format.add u' v' = some q') \/ (b = .sub /\ k.format.sub u v = some q /\ k.format.sub u' v' = some q')) : runPure P (execOp ρ o) = some (.value (.complex k q q')) := by
 have := cOp_run (P := P) h
 rcases h with ⟨rfl, h⟩ | ⟨rfl, h⟩ <;> simp [execOp, hop, hx, hy, binOp, eqGuard, runPure_map, this]
theorem flMax_run {ρ : Operand -> Value} {cc : Call} {x y : Operand} {k : FloatKind} {a b q : Nat} (hop : o.op = .call cc) (hcl : cc.callee = .builtin .max) (hargs : cc.args.toList = [x, y]) (hx : ρ x = .float k a) (hy : ρ y = .float k b)
  (h : flMax k a b = some q) : runPure P (execOp ρ o) = some (.value (.float k q)) := by
 have ha : cc.args = #[x, y] := by rw [<- Array.toArray_toList (xs := cc.args), hargs]
 unfold flMax at h
 simp [execOp, hop, resolve, hcl, ha, invoke, builtin, hx, hy, Builtin.max_, Builtin.max2, runPure_map]
 split at h
 ·cases h
 ·rename_i ho; simp only [Option.some.injEq] at h; subst h; rw [ho]; rfl
 ·rename_i ho; simp only [Option.some.injEq] at h; subst h; rw [ho]; rfl
 ·rename_i ho; simp only [Option.some.injEq] at h; subst h; rw [ho]; cases (k.decode a).neg <;> rfl
theorem flMin_run {ρ : Operand -> Value} {cc : Call} {x y : Operand} {k : FloatKind} {a b q : Nat} (hop : o.op = .call cc) (hcl : cc.callee = .builtin .min) (hargs : cc.args.toList = [x, y]) (hx : ρ x = .float k a) (hy : ρ y = .float k b)
  (h : flMin k a b = some q) : runPure P (execOp ρ o) = some (.value (.float k q)) := by
 have ha : cc.args = #[x, y] := by rw [<- Array.toArray_toList (xs := cc.args), hargs]
 unfold flMin at h
 simp [execOp, hop, resolve, hcl, ha, invoke, builtin, hx, hy, Builtin.min_, Builtin.min2, runPure_map]
 split at h
 ·cases h
 ·rename_i ho; simp only [Option.some.injEq] at h; subst h; rw [ho]; rfl
 ·rename_i ho; simp only [Option.some.injEq] at h; subst h; rw [ho]; rfl
 ·rename_i ho; simp only [Option.some.injEq] at h; subst h; rw [ho]; cases (k.decode a).neg <;> rfl
theorem floInt_run {k : FloatKind} {a : Nat} {d : IntKind} {i : Int} (h : floInt true k a d = some i) : runPure P (Conv.floatToInt k a d) = some (.int d i) := by
 unfold floInt at h
 simp only [cond_true] at h
 unfold Conv.floatToInt
 split at h
 ·rename_i n hn
  rw [hn]
  cases hb : (decide (d.min <= n) && decide (n <= d.max)) with
  | false => simp [hb] at h
  | true =>
   simp [hb] at h
   subst h
   simp only [Bool.and_eq_true, decide_eq_true_eq] at hb
   simp only [hb, and_self, if_true]
   rfl
 ·cases h
theorem fl_evN {v : Value} {b : BinOp} {t ty : TypeId} {x y : Operand} (hop : o.op = .binOp b t x y ty) (h : scalar P (rdF f) o = some (.t (.sc v))) (hb : b = .add \/ b = .sub) : evN P (rdF f) sig o = some (.t (.sc v), none) := by
 unfold evN
 rcases hb with rfl | rfl <;> simp only [hop, h, Option.map_some]
theorem mm_evN {v : Value} {cc : Call} {b : Builtin} (hop : o.op = .call cc) (hcl : cc.callee = .builtin b) (hb : b = .max \/ b = .min) (h : scalar P (rdF f) o = some (.t (.sc v))) : evN P (rdF f) sig o = some (.t (.sc v), none) := by
 unfold evN
 rcases hb with rfl | rfl <;> simp only [hop, hcl, h, Option.map_some]
theorem mm_sc {ρ : Operand -> Option V} {cc : Call} {b : Builtin} {x y : Operand} {u v : Value} (hop : o.op = .call cc) (hcl : cc.callee = .builtin b) (hargs : cc.args.toList = [x, y]) (hx : ρ x = some (.t (.sc u))) (hy : ρ y = some (.t (.sc v))) : o.op.operands.toList.all (isSc ρ) = true := by
 have ha : cc.args = #[x, y] := by rw [<- Array.toArray_toList (xs := cc.args), hargs]
 simp [hop, Op.operands, Call.operands, hcl, ha, isSc_of hx, isSc_of hy]
theorem colOf_get {ts : List T} {off st m i : Nat} {y : T} (hle : (m - 1) * st + off < ts.length) (h : (colOf ts off st m)[i]? = some y) : ts[off + i * st]? = some y := by
 unfold colOf at h
 rw [List.getElem?_map] at h
 have hi : i < m := by
  by_cases hi : i < m
  ·exact hi
  ·rw [List.getElem?_eq_none (by simp; omega)] at h; simp at h
 rw [List.getElem?_range hi] at h
 simp only [Option.map_some, Option.some.injEq] at h
 have h1 : i * st <= (m - 1) * st := Nat.mul_le_mul_right _ (by omega)
 have h2 : i * st + off < ts.length := by omega
 rw [List.getD_eq_getElem?_getD, List.getElem?_eq_getElem h2] at h
 rw [Nat.add_comm off, List.getElem?_eq_getElem h2, <- h]; rfl
theorem rowsOf_get {ts : List T} {off st m sz i : Nat} {y : T} (hle : (m - 1) * st + off + sz <= ts.length) (h : (rowsOf ts off st m sz)[i]? = some y) : y = T.agg ((ts.drop (off + i * st)).take sz) /\ off + i * st + sz <= ts.length := by
 unfold rowsOf at h
 rw [List.getElem?_map] at h
 have hi : i < m := by
  by_cases hi : i < m
  ·exact hi
  ·rw [List.getElem?_eq_none (by simp; omega)] at h; simp at h
 rw [List.getElem?_range hi] at h
 simp only [Option.map_some, Option.some.injEq] at h
 have h1 : i * st <= (m - 1) * st := Nat.mul_le_mul_right _ (by omega)
 exact ⟨by rw [<- h, Nat.add_comm off], by omega⟩
theorem cmpA_run {b : BinOp} {t ty : TypeId} {x y : Operand} (hop : o.op = .binOp b t x y ty) {vs us : List V} {l m : List Value} (hx : rdF f x = some (.agg vs)) (hy : rdF f y = some (.agg us)) (hl : flatL vs = some l) (hm : flatL us = some m) {q : Bool} (h : cmpA P true b t l m = some q) :
  scalar P (rdF f) o = some (.t (.sc (.bool q))) := by
 have e1 : rdV (rdF f) x = .agg l.toArray := by simp only [rdV, hx, hl]
 have e2 : rdV (rdF f) y = .agg m.toArray := by simp only [rdV, hy, hm]
 refine scalar_of ?_ ?_ rfl
 ·have i1 : isSc (rdF f) x = true := by simp only [isSc, hx, hl]; rfl
  have i2 : isSc (rdF f) y = true := by simp only [isSc, hy, hm]; rfl
  simp [hop, Op.operands, i1, i2]
 ·unfold cmpA at h
  simp only [cond_true] at h
  split at h
  ·rename_i q' hq
   simp only [Option.some.injEq] at h
   subst h
   simp only [execOp, hop, e1, e2]
   have hg : ∀ (u v : Operand), eqGuard b t u v (.agg l.toArray) (.agg m.toArray) = eqGuard b t (.tmp 0) (.tmp 0) (.agg l.toArray) (.agg m.toArray) := fun u v => rfl
   rw [hg, runPure_bind, hq]
   rfl
  ·cases h
theorem quietM_sound {K : V -> Option Nat -> Option R} {r : R} (hnp : ∀ a b d, o.op ≠ .pick a b d) (h : quietM P f sig c o K = some r) : Brings P f sig c o K r := by
 unfold quietM at h
 split at h
 ·rename_i t xo io hop
  split at h
  ·rename_i es kk k hx hi
   split at h
   ·rename_i el hel
    split at h
    ·rename_i sz sh hsz hsh
     split at h
     ·rename_i hl
      obtain ⟨y, hy1, hy2⟩ := Option.bind_eq_some_iff.1 h
      refine ⟨_, none, fun hc => ?_, hy2⟩
      rw [hc] at hy1
      obtain ⟨h1, h2, h3⟩ := idx_some hy1
      obtain ⟨h4, h5⟩ := fits_as h3
      unfold evN
      simp only [hop, hx, hi, hel, hsz, Option.bind_some, h1, if_true, h2, h4, <- h5, hl]
     ·cases h
    ·cases h
   ·cases h
  ·rename_i id off kk k hx hi
   split at h
   ·exact brings_direct h
   ·rename_i hic
    split at h
    ·rename_i m el hta
     split at h
     ·rename_i sz hsz
      obtain ⟨h1, h2⟩ := must_some h
      refine ⟨_, none, fun hc => ?_, h2⟩
      have h3 := h1 hc
      simp only [Bool.and_eq_true, decide_eq_true_eq] at h3
      unfold evN
      simp only [hop, hx, hi, hta, hsz, hic]
      rw [if_pos h3]
      rfl
     ·cases h
    ·cases h
  ·exact brings_direct h
 ·rename_i t x hop
  split at h
  ·rename_i id off st m k hx
   split at h
   ·rename_i cs k0 hs ha hn hsh
    split at h
    ·rename_i ts hts
     split at h
     ·rename_i hle
      obtain ⟨y, hy1, hy2⟩ := Option.bind_eq_some_iff.1 h
      refine ⟨_, some id, fun hc => ?_, hy2⟩
      rw [hc] at hy1
      obtain ⟨a1, a2, a3⟩ := idx1_some hy1
      have a4 := colOf_get hle a2
      unfold evN
      simp only [hop, hx, ha, hn, hs]
      rw [fitsCell_as a3, tsOf_some hts]
      simp [partV, a4]
     ·cases h
    ·cases h
   ·rename_i cs sz sh hs ha hn hsh
    split at h
    ·rename_i ts hts
     split at h
     ·rename_i hle
      obtain ⟨y, hy1, hy2⟩ := Option.bind_eq_some_iff.1 h
      refine ⟨_, some id, fun hc => ?_, hy2⟩
      rw [hc] at hy1
      obtain ⟨a1, a2, a3⟩ := idx_some hy1
      obtain ⟨a4, a5⟩ := rowsOf_get hle.1 a2
      obtain ⟨a6, _⟩ := fits_as a3
      unfold evN
      simp only [hop, hx, ha, hn, hs]
      rw [a6, tsOf_some hts, a4]
      simp [partV, a5, T.cells, List.map_take, List.map_drop]
     ·cases h
    ·cases h
   ·cases h
  ·exact brings_direct h
 ·rename_i t x y ty hop
  split at h
  ·rename_i k a k' b hx hy
   split at h
   ·rename_i hk
    subst hk
    obtain ⟨h1, h2⟩ := must_some h
    refine ⟨_, none, fun hc => ?_, h2⟩
    have hb : b ≠ 0 := by simpa using h1 hc
    have : scalar P (rdF f) o = some (.t (.sc (.int k (k.wrap (a.tdiv b))))) := by
     refine scalar_of ?_ ?_ rfl
     ·simp [hop, Op.operands, isSc_of hx, isSc_of hy]
     ·simp [execOp, hop, rdV_of hx, rdV_of hy, binOp, Op.intDiv, hb, runPure]
      rfl
    unfold evN
    simp only [hop, this, Option.map_some]
   ·cases h
  ·cases h
 ·rename_i t x y ty hop
  split at h
  ·rename_i k a k' b hx hy
   split at h
   ·rename_i hk
    subst hk
    obtain ⟨h1, h2⟩ := must_some h
    refine ⟨_, none, fun hc => ?_, h2⟩
    have hb : b ≠ 0 := by simpa using h1 hc
    have : scalar P (rdF f) o = some (.t (.sc (.int k (a.tmod b)))) := by
     refine scalar_of ?_ ?_ rfl
     ·simp [hop, Op.operands, isSc_of hx, isSc_of hy]
     ·simp [execOp, hop, rdV_of hx, rdV_of hy, binOp, Op.intDiv, hb, runPure]
      rfl
    unfold evN
    simp only [hop, this, Option.map_some]
   ·cases h
  ·cases h
 ·rename_i t x y ty hop
  split at h
  ·rename_i a b hx hy
   obtain ⟨h1, h2⟩ := must_some h
   refine ⟨_, none, fun hc => ?_, h2⟩
   have hb := h1 hc
   simp only [decide_eq_true_eq] at hb
   have : scalar P (rdF f) o = some (.t (.sc (.string (a ++ b)))) := by
    refine scalar_of ?_ ?_ rfl
    ·simp [hop, Op.operands, isSc_of hx, isSc_of hy]
    ·simp only [execOp, hop, rdV_of hx, rdV_of hy, binOp, Op.stringOp]
     rw [if_neg (by omega)]
     rfl
   unfold evN
   simp only [hop, this, Option.map_some]
  ·rename_i k a k' b hx hy
   split at h
   ·rename_i hk
    subst hk
    obtain ⟨q, h1, h2⟩ := Option.bind_eq_some_iff.1 h
    refine ⟨_, none, fun hc => ?_, h2⟩
    rw [hc] at h1
    exact fl_evN hop (scalar_of (by simp [hop, Op.operands, isSc_of hx, isSc_of hy]) (fl_run hop (rdV_of hx) (rdV_of hy) (.inl ⟨rfl, flo_some h1⟩)) rfl) (.inl rfl)
   ·cases h
  ·rename_i k a a' k' b b' hx hy
   split at h
   ·rename_i hk
    subst hk
    obtain ⟨q, h1, h2⟩ := Option.bind_eq_some_iff.1 h
    obtain ⟨q', h1', h2⟩ := Option.bind_eq_some_iff.1 h2
    refine ⟨_, none, fun hc => ?_, h2⟩
    rw [hc] at h1 h1'
    exact fl_evN hop (scalar_of (by simp [hop, Op.operands, isSc_of hx, isSc_of hy]) (cx_run hop (rdV_of hx) (rdV_of hy) (.inl ⟨rfl, flo_some h1, flo_some h1'⟩)) rfl) (.inl rfl)
   ·cases h
  ·exact brings_direct h
 ·rename_i t x y ty hop
  split at h
  ·rename_i k a k' b hx hy
   split at h
   ·rename_i hk
    subst hk
    obtain ⟨q, h1, h2⟩ := Option.bind_eq_some_iff.1 h
    refine ⟨_, none, fun hc => ?_, h2⟩
    rw [hc] at h1
    exact fl_evN hop (scalar_of (by simp [hop, Op.operands, isSc_of hx, isSc_of hy]) (fl_run hop (rdV_of hx) (rdV_of hy) (.inr ⟨rfl, flo_some h1⟩)) rfl) (.inr rfl)
   ·cases h
  ·rename_i k a a' k' b b' hx hy
   split at h
   ·rename_i hk
    subst hk
    obtain ⟨q, h1, h2⟩ := Option.bind_eq_some_iff.1 h
    obtain ⟨q', h1', h2⟩ := Option.bind_eq_some_iff.1 h2
    refine ⟨_, none, fun hc => ?_, h2⟩
    rw [hc] at h1 h1'
    exact fl_evN hop (scalar_of (by simp [hop, Op.operands, isSc_of hx, isSc_of hy]) (cx_run hop (rdV_of hx) (rdV_of hy) (.inr ⟨rfl, flo_some h1, flo_some h1'⟩)) rfl) (.inr rfl)
   ·cases h
  ·exact brings_direct h
 ·rename_i t x y ty hop
  split at h
  ·rename_i vs us hx hy
   split at h
   ·rename_i l m hl hm
    obtain ⟨q, h1, h2⟩ := Option.bind_eq_some_iff.1 h
    refine ⟨_, none, fun hc => ?_, h2⟩
    rw [hc] at h1
    have := cmpA_run hop hx hy hl hm h1
    unfold evN
    simp only [hop, hx, hy, this, Option.map_some]
   ·cases h
  ·exact brings_direct h
 ·rename_i t x y ty hop
  split at h
  ·rename_i vs us hx hy
   split at h
   ·rename_i l m hl hm
    obtain ⟨q, h1, h2⟩ := Option.bind_eq_some_iff.1 h
    refine ⟨_, none, fun hc => ?_, h2⟩
    rw [hc] at h1
    have := cmpA_run hop hx hy hl hm h1
    unfold evN
    simp only [hop, hx, hy, this, Option.map_some]
   ·cases h
  ·exact brings_direct h
 ·rename_i src dst x hop
  split at h
  ·rename_i k a hx
   split at h
   ·rename_i s0 d hs hd
    obtain ⟨i, h1, h2⟩ := Option.bind_eq_some_iff.1 h
    refine ⟨_, none, fun hc => ?_, h2⟩
    rw [hc] at h1
    have : scalar P (rdF f) o = some (.t (.sc (.int d i))) := by
     refine scalar_of (by simp [hop, Op.operands, isSc_of hx]) ?_ rfl
     simp only [execOp, hop, rdV_of hx, Go.convert, runPure_bind, runPure_under hs, runPure_under hd, Option.bind_some]
     rw [floInt_run h1]
     rfl
    unfold evN
    simp only [hop, hx, this, Option.map_some]
   ·exact brings_direct h
  ·rename_i es hx
   split at h
   ·rename_i el hel hd
    split at h
    ·rename_i hu
     obtain ⟨l, h1, h2⟩ := Option.bind_eq_some_iff.1 h
     refine ⟨_, none, fun hc => ?_, h2⟩
     rw [hc] at h1
     have h1 : bytesL es = some l := h1
     unfold evN
     simp only [hop, hx, hel, hd, hu, h1]
    ·cases h
   ·cases h
  ·exact brings_direct h
 ·rename_i cc hop
  split at h
  ·rename_i x y hcl hargs
   split at h
   ·rename_i k a k' b hx hy
    split at h
    ·rename_i hk
     subst hk
     obtain ⟨q, h1, h2⟩ := Option.bind_eq_some_iff.1 h
     refine ⟨_, none, fun hc => ?_, h2⟩
     rw [hc] at h1
     exact mm_evN hop hcl (.inl rfl) (scalar_of (mm_sc hop hcl hargs hx hy) (flMax_run hop hcl hargs (rdV_of hx) (rdV_of hy) (flo_some h1)) rfl)
    ·cases h
   ·exact brings_direct h
  ·rename_i x y hcl hargs
   split at h
   ·rename_i k a k' b hx hy
    split at h
    ·rename_i hk
     subst hk
     obtain ⟨q, h1, h2⟩ := Option.bind_eq_some_iff.1 h
     refine ⟨_, none, fun hc => ?_, h2⟩
     rw [hc] at h1
     exact mm_evN hop hcl (.inr rfl) (scalar_of (mm_sc hop hcl hargs hx hy) (flMin_run hop hcl hargs (rdV_of hx) (rdV_of hy) (flo_some h1)) rfl)
    ·cases h
   ·exact brings_direct h
  ·exact brings_direct h
 ·rename_i t x i hop
  split at h
  ·rename_i s kk k hx hi
   split at h
   ·rename_i hu
    obtain ⟨b, hb1, hb2⟩ := Option.bind_eq_some_iff.1 h
    refine ⟨_, none, fun hc => ?_, hb2⟩
    rw [hc] at hb1
    obtain ⟨h1, h2⟩ := bidx_some hb1
    have : scalar P (rdF f) o = some (.t (.sc (.int .u8 b.toNat))) := by
     refine scalar_of ?_ ?_ rfl
     ·simp [hop, Op.operands, isSc_of hx, isSc_of hi]
     ·simp only [execOp, hop, rdV_of hx, rdV_of hi, Instr.index, asIntOf]
      simp only [runPure_bind, runPure_pure, Option.bind_some, runPure_under hu, h1, if_true, h2, runPure_map, Option.map_some]
    unfold evN
    simp only [hop, hx, hi, this, Option.map_some]
   ·cases h
  ·rename_i vs kk k hx hi
   split at h
   ·rename_i m el hta
    split at h
    ·rename_i k0 es h1 h2 h3 h4
     split at h
     ·rename_i hlen
      obtain ⟨y, hy1, hy2⟩ := Option.bind_eq_some_iff.1 h
      refine ⟨_, none, fun hc => ?_, hy2⟩
      rw [hc] at hy1
      obtain ⟨a1, a2, a3⟩ := idx1_some hy1
      have hk : k < m := by
       have := (List.getElem?_eq_some_iff.1 a2).1
       omega
      unfold evN
      simp only [hop, hx, hi, hta, h1, h2]
      rw [if_pos ⟨a1, hk⟩, fitsCell_as a3, tsOf_some h4]
      simp [partV, a2]
     ·cases h
    ·cases h
   ·cases h
  ·exact brings_direct h
 ·rename_i t x lo hi mx hop
  split at h
  ·rename_i es hx
   split at h
   ·rename_i sz l hh m hsz hl hhh hm
    split at h
    ·rename_i hpos
     obtain ⟨h1, h2⟩ := must_some h
     have key : chainB f c = true -> 0 <= l.getD 0 /\ l.getD 0 <= hh.getD es.length /\ hh.getD es.length <= es.length /\ 0 < sz /\ (es.all fun y => y.cells.length == sz) = true := by
      intro hc
      have := h1 hc
      simp only [Bool.and_eq_true, decide_eq_true_eq, sized] at this
      exact ⟨this.1.1.1, this.1.1.2, this.1.2, hpos, this.2⟩
     split at h2
     ·refine ⟨_, none, fun hc => ?_, h2⟩
      unfold evN
      simp only [hop, hx, hsz, hl, hhh, hm]
      rw [if_pos (key hc)]
     ·split at h2
      ·rename_i hs
       obtain ⟨h3, h4⟩ := must_some h2
       refine ⟨_, none, fun hc => ?_, h4⟩
       have h5 := h3 hc
       simp only [decide_eq_true_eq] at h5
       unfold evN
       simp only [hop, hx, hsz, hl, hhh, hm]
       rw [if_pos (key hc), if_pos ⟨h5, hs⟩]
      ·cases h2
    ·cases h
   ·cases h
  ·rename_i s hx
   split at h
   ·rename_i l hh hu hl hhh
    obtain ⟨h1, h2⟩ := must_some h
    refine ⟨_, none, fun hc => ?_, h2⟩
    have h3 := h1 hc
    simp only [Bool.and_eq_true, decide_eq_true_eq] at h3
    have : scalar P (rdF f) o = some (.t (.sc (.string (s.extract (l.getD 0).toNat (hh.getD s.size).toNat)))) :=
     slice_string hop hx hu hl hhh h3.1.1 h3.1.2 h3.2
    unfold evN
    simp only [hop, hx, this, Option.map_some]
   ·cases h
  ·exact brings_direct h
 ·rename_i t l cp hop
  split at h
  ·rename_i el nn mm hel hl hcp
   split at h
   ·rename_i sz by_ z hsz hby hz
    split at h
    ·rename_i zs hzs
     split at h
     ·rename_i hh
      obtain ⟨h1, h2⟩ := must_some h
      refine ⟨_, none, fun hc => ?_, h2⟩
      have h3 := h1 hc
      simp only [Bool.and_eq_true, decide_eq_true_eq] at h3
      unfold evN
      simp only [hop, hel, hl, hcp, hsz, hby, hz, hzs]
      rw [if_pos ⟨h3.1.1, h3.1.2, h3.2, hh.1, hh.2.1, hh.2.2⟩]
     ·cases h
    ·cases h
   ·cases h
  ·cases h
 ·rename_i hop
  exact absurd hop (hnp _ _ _)
 ·exact brings_direct h
theorem pick_sound {K : V -> Option Nat -> Option R} {r : R} {cd a b : Operand} (hop : o.op = .pick cd a b) (h : quietM P f sig c o K = some r) :
  ∃ q v, rdF f cd = some (.t (.sc (.bool q))) /\ K v none = some r /\ ∀ (ρ : Operand -> Option V) (s : Sig), ρ cd = rdF f cd -> (q = true -> ρ a = rdF f a) -> (q = false -> ρ b = rdF f b) -> evN P ρ s o = some (v, none) := by
 unfold quietM at h
 simp only [hop] at h
 split at h
 ·rename_i q hq
  split at h
  ·rename_i va vb ha hb
   split at h
   ·rename_i v hv
    have hm := mergeV_some hv
    refine ⟨q, v, hq, h, fun ρ s h1 h2 h3 => ?_⟩
    unfold evN
    simp only [hop, h1, hq]
    cases q with
    | true => simp [h2 rfl, ha, hm]
    | false => simp [h3 rfl, hb, hm]
   ·cases h
  ·cases h
 ·cases h
end
end Go.Eng
