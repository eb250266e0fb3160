/- The engine: the symbolic walk is sound: third part, effects, regions. -/
import Derived.Test.YtimkclpogbfciaaDoorEngWB
set_option linter.unusedVariables false
set_option linter.unusedSimpArgs false
namespace Go.Eng
section
variable {P : Program} {n : Nat} {e : Env} {x : X} {c : Chain} {o : Oper} {ops : List Oper} {R : Type}
theorem callX_roots {spec : Spec} (hS : CallsOk P spec) {f : FuncId} {vs : List V} {sig : Sig} {b : Bool} {K : V -> Sig -> List Nat -> Option R} {r : R} (h : callX spec f vs sig b K = some r) :
  ∃ v sig3 roots, K v sig3 roots = some r /\ (sig3.length = sig.length /\ ∀ id : Nat, id ∉ roots -> sig3[id]? = sig[id]?) /\ (b = true -> evCall spec.callF f vs sig = some (v, sig3, roots)) := by
 unfold callX at h
 simp only at h
 split at h
 ·rename_i hchk
  have hchk' := hchk
  simp only [Bool.and_eq_true] at hchk'
  have hnd := nodupB_spec hchk'.2
  split at h
  ·rename_i vs1 sig1 hvs1 hsig1
   split at h
   ·rename_i cm hcm
    obtain ⟨y, hy, h⟩ := Option.bind_eq_some_iff.1 h
    split at h
    ·rename_i v1 sig3 hv1 hs3
     obtain ⟨q1, q2, _⟩ := sigBack_get hnd hs3
     refine ⟨v1, sig3, _, h, ⟨q1, q2⟩, fun hb => ?_⟩
     subst hb
     simp only [cond_true] at hy
     have hx := callF_some hcm hy
     unfold evCall
     simp only
     rw [if_pos hchk]
     simp only [hvs1, hsig1, hx, hv1, hs3]
    ·cases h
   ·cases h
  ·cases h
 ·cases h
theorem put_ch (x : X) (dst : Option Nat) (v : V) (c : Chain) : (x.put dst v c).sig = x.sig /\ (x.put dst v c).tl = x.tl /\ (x.put dst v c).ll = x.ll := ⟨rfl, rfl, rfl⟩
theorem effectX_step {spec : Spec} (hS : CallsOk P spec) {base i : Nat} {r : Go.Eng.R} {K : X -> Option R} {res : R} (hr : RelX n r x) (hgf : freshG x.gl i = true) (hf : Fresh i r) (hi : ops[i]? = some o) (hg : guardX ops n x o = some c) (ho : opndsOk n x c o = true) (hd : dstOk n x c o.dst = true)
  (h : effectX P spec ops base n i x c o K = some res) : Steps1 P spec ops base n i r K res := by
 have hw := guardX_ok hr.E hg
 unfold effectX at h
 split at h
 ·rename_i hsrc
  have hsrc' : ∀ y ∈ o.op.operands, srcOk ops n i x c y = true := fun y hy => List.all_eq_true.1 hsrc y (by simpa using hy)
  have putE : ∀ {e1 : Env} {E1 : SEnv} {s1 : Sig} {t1 : List (Option (List Nat))} (v : V), RelE n e1 E1 x.ch -> c = [] -> RelE n (e1.put o.dst v) (({ x with env := E1, sig := s1, tl := t1 } : X).put o.dst v []).env (({ x with env := E1, sig := s1, tl := t1 } : X).put o.dst v []).ch := by
   intro e1 E1 s1 t1 v hE1 hc
   subst hc
   exact RelE.put (x := { x with env := E1, sig := s1, tl := t1 }) (c := []) hE1 hd v (fun _ => rfl) (fun hh => by simp [chainB] at hh)
  split at h
  ·
   rename_i xo hop
   split at h
   ·rename_i v E1 sig1 b hho
    have hall := opndsOk_all ho (by simp [hop])
    have hx : xo ∈ o.op.operands := by simp [hop, Op.operands]
    have hw : wantedV ops r.env o = some true := hw
    obtain ⟨e1, k1, k2, k3, k4⟩ := handOnX_sound hr.E hr.tl (c := []) rfl (hall xo hx) (hsrc' xo hx) hho (fun _ => rfl)
    refine ⟨_, { r with env := e1.put o.dst v, sig := sig1 }, h, ?_, ⟨putE v k2 rfl, rfl, hr.tl, hr.ll⟩⟩
    unfold step
    rw [<- hr.sig] at k1
    simp only [hi, hw, hop, k1]
   ·cases h
  ·
   rename_i t a xo hop
   split at h
   ·rename_i id off v E1 sig1 b m ha hho hm
    split at h
    ·rename_i cs hcs
     split at h
     ·rename_i hh
      have hall := opndsOk_all ho (by simp [hop])
      have hx : xo ∈ o.op.operands := by simp [hop, Op.operands]
      have hw : wantedV ops r.env o = some true := hw
      have hrda : (rd r.env a).bind V.asPtr = some (id, off) := by
       rw [<- ha]; exact congrArg (fun z => Option.bind z V.asPtr) (hr.E.opnd (c := []) rfl (hall a (by simp [hop, Op.operands])))
      obtain ⟨e1, k1, k2, k3, k4⟩ := handOnX_sound hr.E hr.tl (c := []) rfl (hall xo hx) (hsrc' xo hx) hho (fun _ => rfl)
      refine ⟨_, { r with env := e1.put o.dst .undef, sig := sig1.set id (some (setCells cs off v.cells)), tl := r.tl.set i (some [id]) }, h, ?_, ⟨putE .undef k2 rfl, rfl, hr.tl.set hgf _, hr.ll⟩⟩
      unfold step
      rw [<- hr.sig] at k1
      simp only [hi, hw, hop, hrda, k1, hm, hcs]
      rw [if_pos hh]
     ·cases h
    ·cases h
   ·cases h
  ·
   rename_i cc hop
   have hall := opndsOk_all ho (by simp [hop])
   split at h
   ·
    rename_i hcl
    split at h
    ·rename_i xo yo tx ty hargs htys
     split at h
     ·rename_i l sz es ys el hl hys hel
      split at h
      ·rename_i m hm
       split at h
       ·rename_i hh
        obtain ⟨h1, h2⟩ := must_some h
        have h3 := h1 rfl
        simp only [Bool.and_eq_true, Bool.or_eq_true, decide_eq_true_eq] at h3
        have hsz : sz = m \/ sz = 0 := by
         rcases h3.1 with h | h
         ·exact .inl (Nat.eq_of_beq_eq_true h)
         ·exact .inr (Nat.eq_of_beq_eq_true h)
        have hmem : ∀ y, y ∈ cc.args.toList -> y ∈ o.op.operands := by
         intro y hy
         simp only [hop, Op.operands, Call.operands, Array.mem_append]
         exact .inr (by simpa using hy)
        have hx : xo ∈ o.op.operands := hmem xo (by simp [hargs])
        have hy : yo ∈ o.op.operands := hmem yo (by simp [hargs])
        have hw : wantedV ops r.env o = some true := hw
        have hrdy : rd r.env yo = rdF x.env.at yo := hr.E.opnd (c := []) rfl (hall yo hy)
        have hl' : locOf P ops base i r.env.at r.sig r.tl xo = some (l, sz, es) := by
         rw [hr.sig]
         exact (locOf_real hr.E hr.tl (c := []) rfl (hall xo hx) (hsrc' xo hx) (by rw [hl]; exact hh.1)).trans hl
        obtain ⟨k1, k2⟩ := consumeX_sound hr.E hl (hall xo hx) (hsrc' xo hx)
        refine ⟨_, { r with env := Env.put (consume r.env r.sig l es).1 o.dst (.own m (es ++ ys)), sig := (consume r.env r.sig l es).2 }, h2, ?_, ⟨?_, ?_, hr.tl, hr.ll⟩⟩
        ·unfold step
         simp only [hi, hw, hop, hcl, hargs, htys, hl', hrdy, hys, hel, hm]
         rw [if_pos]
         refine ⟨hsz, hh.2.1, ?_, h3.2.2, hh.2.2.1, hh.2.2.2.2⟩
         simp only [bytesOk, Bool.and_eq_true, decide_eq_true_eq]
         exact ⟨hh.2.2.2.1, h3.2.1⟩
        ·rw [hr.sig]
         exact putE _ k2 rfl
        ·rw [hr.sig]; exact k1
       ·cases h
      ·cases h
     ·cases h
    ·cases h
   ·cases h
   ·
    rename_i fx hcl
    split at h
    ·rename_i g caps vs E1 sig1 touched hfx hha
     obtain ⟨v, sig3, roots, hK, hroots, hev⟩ := callX_roots hS h
     have hmem : ∀ y, y ∈ cc.args.toList -> y ∈ o.op.operands := by
      intro y hy
      simp only [hop, Op.operands, Call.operands, Array.mem_append]
      exact .inr (by simpa using hy)
     have hfmem : fx ∈ o.op.operands := by
      simp only [hop, Op.operands, Call.operands, Array.mem_append, hcl]
      exact .inl (by simp)
     split at hK
     ·have hw : wantedV ops r.env o = some true := hw
      obtain ⟨e1, k1, k2, k3⟩ := handAllX_sound hr.E hr.tl (c := []) rfl (fun y hy => hall y (hmem y hy)) (fun y hy => hsrc' y (hmem y hy)) hha (fun _ => rfl)
      have hrdf : rd r.env fx = some (.fn g caps) := by rw [<- hfx]; exact hr.E.opnd (c := []) rfl (hall fx hfmem)
      refine ⟨_, { r with env := e1.put o.dst v, sig := sig3, tl := r.tl.set i (some roots) }, hK, ?_, ⟨putE v k2 rfl, rfl, hr.tl.set hgf _, hr.ll⟩⟩
      unfold step
      rw [<- hr.sig] at k1
      simp only [hi, hw, hop, hcl, hrdf, k1, hev rfl]
     ·rename_i p q
      split at hK
      ·cases hK
      ·rename_i ht
       simp only [Bool.not_eq_true] at ht
       subst ht
       split at hK
       ·rename_i s hms
        have htl0 : x.tl[i]? = some none := by
         have h1 := hr.tl.same i (freshG_some hgf)
         have hlt : i < r.tl.length := by
          rw [hr.tl.len, <- hr.tl.lenG]
          exact (List.getElem?_eq_some_iff.1 (freshG_some hgf)).1
         rw [<- h1]; exact hf.2 i (Nat.le_refl i) hlt
        have hput : ∀ {u : V}, (chainB x.env.at (p :: q) = true -> u = v) -> (chainB x.env.at (p :: q) = false -> u = .undef) -> RelE n (r.env.put o.dst u) (({ x with sig := s, gl := x.gl.set i (some roots) } : X).put o.dst v (p :: q)).env (({ x with sig := s, gl := x.gl.set i (some roots) } : X).put o.dst v (p :: q)).ch :=
         fun h1 h2 => RelE.put (x := { x with sig := s, gl := x.gl.set i (some roots) }) hr.E hd v h1 h2
        cases hc : chainB x.env.at (p :: q) with
        | true =>
         rw [hc] at hw hms
         obtain ⟨e1, k1, k2, k3⟩ := handAllX_sound hr.E hr.tl hc (fun y hy => hall y (hmem y hy)) (fun y hy => hsrc' y (hmem y hy)) hha (fun h => by cases h)
         obtain ⟨a1, a2, a3⟩ := k3 rfl
         subst a3
         have hrdf : rd r.env fx = some (.fn g caps) := by rw [<- hfx]; exact hr.E.opnd hc (hall fx hfmem)
         have hs : s = sig3 := mergeSig_some (q := true) mergeV_some hms (by rw [hroots.1, a2]) (fun id hid => by rw [hroots.2 id hid, a2])
         refine ⟨_, { r with env := r.env.put o.dst v, sig := sig3, tl := r.tl.set i (some roots) }, hK, ?_, ⟨hput (fun _ => rfl) (fun h => by rw [hc] at h; cases h), hs.symm, hr.tl.guarded hgf htl0 roots (.inl rfl), hr.ll⟩⟩
         unfold step
         rw [<- hr.sig] at k1
         simp only [hi, hw, hop, hcl, hrdf, k1, hev hc]
        | false =>
         rw [hc] at hw hms
         have hs : s = x.sig := by
          by_cases hE1 : sig1 = x.sig
          ·exact mergeSig_some (q := false) mergeV_some hms (by rw [hroots.1, hE1]) (fun id hid => by rw [hroots.2 id hid, hE1])
          ·exact mergeSig_false mergeV_some hms
         exact ⟨_, _, hK, step_not hi hw, ⟨hput (fun h => by rw [hc] at h; cases h) (fun _ => rfl), by rw [hs]; exact hr.sig, hr.tl.guarded hgf htl0 roots (.inr rfl), hr.ll⟩⟩
       ·cases hK
    ·cases h
   ·cases h
  ·cases h
 ·cases h
theorem stepX_step {spec : Spec} (hS : CallsOk P spec) {base i : Nat} {r : Go.Eng.R} {K : X -> Option R} {res : R} (hr : RelX n r x) (hf : Fresh i r) (h : stepX P spec ops base n i x K = some res) : Steps1 P spec ops base n i r K res := by
 unfold stepX at h
 split at h
 ·cases h
 ·rename_i o hi
  split at h
  ·cases h
  ·rename_i c hg
   split at h
   ·rename_i hok
    simp only [Bool.and_eq_true] at hok
    split at h
    ·exact effectX_step hS hr hok.2 hf hi hg hok.1.1 hok.1.2 h
    ·rename_i hE
     split at h
     ·exact allocX_step hr hok.2 hi hg hok.1.1 hok.1.2 h
     ·rename_i ha
      exact quietX_step hr hf hi hg hok.1.1 hok.1.2 (by simpa using hE) (by simpa using ha) h
   ·cases h
theorem stepsX_steps {spec : Spec} (hS : CallsOk P spec) {base : Nat} {K : X -> Option R} {res : R} : ∀ (m i : Nat) {x : X} {r : Go.Eng.R}, RelX n r x -> Fresh i r -> i + m <= r.tl.length -> stepsX P spec ops base n (List.range' i m) x K = some res →
  ∃ x' r', K x' = some res /\ steps P spec.callF ops base (List.range' i m) r = some r' /\ RelX n r' x'
 | 0, i, x, r, hr, hf, hl, h => ⟨x, r, by simpa [stepsX] using h, by simp [steps], hr⟩
 | m + 1, i, x, r, hr, hf, hl, h => by
  simp only [List.range'_succ, stepsX] at h
  obtain ⟨x1, r1, h1, h2, h3⟩ := stepX_step hS hr hf h
  obtain ⟨l1, l2, l3⟩ := step_logs (by omega) h2
  have hf1 : Fresh (i + 1) r1 := ⟨fun k hk hkl => by rw [(l1 k (by omega)).2]; exact hf.1 k (by omega) (by omega), fun k hk hkl => by rw [(l1 k (by omega)).1]; exact hf.2 k (by omega) (by omega)⟩
  obtain ⟨x2, r2, k1, k2, k3⟩ := stepsX_steps hS m (i + 1) h3 hf1 (by omega) h1
  refine ⟨x2, r2, k1, ?_, k3⟩
  simp only [List.range'_succ, steps, h2, k2]
theorem joinLog_get : ∀ {a b : List (Option (List Nat))} {j : Nat} {ids : List Nat}, a.length = b.length -> (b[j]? = some (some ids) \/ (b[j]? = some none /\ a[j]? = some (some ids))) -> (joinLog a b)[j]? = some (some ids)
 | [], [], j, ids, _, h => by simp at h
 | a :: as, b :: bs, 0, ids, _, h => by
  simp only [List.getElem?_cons_zero, Option.some.injEq] at h
  rcases h with rfl | ⟨rfl, rfl⟩ <;> rfl
 | a :: as, b :: bs, j + 1, ids, hl, h => by
  simp only [joinLog, List.getElem?_cons_succ] at h ⊢
  exact joinLog_get (by simpa using hl) h
 | [], _ :: _, _, _, hl, _ => by simp at hl
 | _ :: _, [], _, _, hl, _ => by simp at hl
theorem apartOk_le {ops : Array Oper} {r r' : Go.Eng.R} (hT' : ∀ {j : Nat} {ids : List Nat}, r.tl[j]? = some (some ids) -> r'.tl[j]? = some (some ids)) (hl : LlRel r.ll r'.ll) (h : apartOk ops r' = true) : apartOk ops r = true := by
 have hT : ∀ {j : Nat} {ids : List Nat}, r.tl[j]? = some (some ids) -> r'.tl[j]? = some (some ids) := hT'
 have hL : ∀ {j id : Nat}, r.ll[j]? = some (some id) -> r'.ll[j]? = some (some id) := by
  intro j id hj
  rcases hl.2 j with h1 | h1
  ·rw [<- h1]; exact hj
  ·rw [h1] at hj; cases hj
 unfold apartOk at h ⊢
 simp only [Bool.and_eq_true, List.all_eq_true] at h ⊢
 obtain ⟨h1, h2⟩ := h
 constructor
 ·rintro ⟨l, i⟩ hm
  have hm := List.mem_zipIdx_iff_getElem?.1 hm
  cases l with
  | none => rfl
  | some id =>
   have hm' := hL hm
   have := h1 (some id, i) (List.mem_zipIdx_iff_getElem?.2 hm')
   simp only [List.all_eq_true] at this ⊢
   rintro ⟨t, j⟩ htm
   have htm := List.mem_zipIdx_iff_getElem?.1 htm
   cases t with
   | none => rfl
   | some ids => exact this (some ids, j) (List.mem_zipIdx_iff_getElem?.2 (hT htm))
 ·rintro ⟨t, j⟩ hm
  have hm := List.mem_zipIdx_iff_getElem?.1 hm
  cases t with
  | none => rfl
  | some ids =>
   have := h2 (some ids, j) (List.mem_zipIdx_iff_getElem?.2 (hT hm))
   simp only at this ⊢
   split at this
   ·rename_i ids' hids ha
    simp only [ha] at *
    simp only [Option.some.injEq] at hids
    subst hids
    simp only [List.all_eq_true] at this ⊢
    rintro ⟨t', i⟩ htm
    have htm := List.mem_zipIdx_iff_getElem?.1 htm
    cases t' with
    | none => simp
    | some ids' => exact this (some ids', i) (List.mem_zipIdx_iff_getElem?.2 (hT htm))
   ·rfl
theorem tidy_look : ∀ (l : List (Nat × V)) (seen : List Nat) {k : Nat} {v : V}, look (tidy x seen l) k = some v -> (∀ s ∈ seen, s ≠ k) -> ∃ u, look l k = some u /\ v = u.soft /\ x.chain k = []
 | [], seen, k, v, h, hs => by simp [tidy, look] at h
 | (d, u) :: r, seen, k, v, h, hs => by
  have bt : ∀ a b : Nat, Nat.beq a b = true -> a = b := fun a b h => Nat.eq_of_beq_eq_true h
  have skip : ∀ seen' : List Nat, (∀ s ∈ seen', s ≠ k) -> look (tidy x seen' r) k = some v -> d ≠ k -> ∃ u', look ((d, u) :: r) k = some u' /\ v = u'.soft /\ x.chain k = [] := by
   intro seen' hs' hl hd
   obtain ⟨u', h1, h2⟩ := tidy_look r seen' hl hs'
   exact ⟨u', by rw [look_cons, if_neg hd]; exact h1, h2⟩
  simp only [tidy] at h
  split at h
  ·rename_i hany
   rw [List.any_eq_true] at hany
   obtain ⟨s, hs1, hs2⟩ := hany
   have hdk : d ≠ k := by
    have := hs s hs1
    intro hh
    exact this ((bt _ _ hs2).symm.trans hh)
   exact skip seen hs h hdk
  ·by_cases hdk : d = k
   ·subst hdk
    split at h
    ·rename_i hch
     rw [look_cons] at h
     simp only [if_true, Option.some.injEq] at h
     exact ⟨u, by simp [look_cons], h.symm, hch⟩
    ·exfalso
     have hno : ∀ (l : List (Nat × V)) (seen : List Nat), d ∈ seen -> look (tidy x seen l) d = none := by
      intro l
      induction l with
      | nil => intro seen _; rfl
      | cons q l ih =>
       obtain ⟨d', u'⟩ := q
       intro seen hm
       simp only [tidy]
       split
       ·exact ih seen hm
       ·rename_i hany
        have hne : d' ≠ d := by
         intro hh
         apply hany
         rw [List.any_eq_true]
         exact ⟨d, hm, by rw [hh]; simp⟩
        split
        ·rw [look_cons, if_neg hne]; exact ih _ (by simp [hm])
        ·exact ih _ (by simp [hm])
     rw [hno r (d :: seen) (by simp)] at h
     cases h
   ·split at h
    ·rw [look_cons, if_neg hdk] at h
     exact skip (d :: seen) (fun s hs' => by simp only [List.mem_cons] at hs'; rcases hs' with rfl | hs'; exact hdk; exact hs s hs') h hdk
    ·exact skip (d :: seen) (fun s hs' => by simp only [List.mem_cons] at hs'; rcases hs' with rfl | hs'; exact hdk; exact hs s hs') h hdk
def Knows (n : Nat) (e : Env) (E : SEnv) : Prop := e.length = n /\ ∀ d v, look E d = some v -> d < n -> ∃ u, e.at d = u /\ v = u.soft
theorem regionX_ev {spec : Spec} (hS : CallsOk P spec) {ops : Array Oper} {draw : Bool} {E : SEnv} {sig : Sig} {K : SEnv -> Sig -> Option R} {res : R} (h : regionX P spec n ops draw E sig K = some res) :
  ∃ e' sig' E', evRegion P spec.callF ops draw (E.env n) sig = some (e', sig') /\ Knows n e' E' /\ K E' sig'.soft = some res := by
 unfold regionX at h
 simp only at h
 rw [List.range_eq_range'] at h
 let r0 : Go.Eng.R := { env := E.env n, sig := sig ++ List.replicate (boxNo ops.toList ops.size) none, tl := List.replicate ops.size none, ll := List.replicate ops.size none }
 have h0 : RelX n r0 { env := E, ch := [], sig := sig ++ List.replicate (boxNo ops.toList ops.size) none, tl := List.replicate ops.size none, gl := List.replicate ops.size none, ll := List.replicate ops.size none } := by
  refine ⟨⟨SEnv.env_length n E, fun d v hd hv _ => ?_, fun d hd hv hc => by simp [look, chainB] at hc⟩, rfl, ⟨rfl, rfl, fun _ _ => rfl, fun i ids h => ?_⟩, .refl _⟩
  ·rw [<- SEnv.at_of hv]
   exact SEnv.env_at hd
  ·simp only [List.getElem?_replicate] at h
   split at h <;> simp at h
 have hf0 : Fresh 0 r0 := by
  constructor <;> (intro k _ hk; simp only [r0, List.length_replicate] at hk; simp [r0, hk])
 obtain ⟨x', r', h1, h2, h3⟩ := stepsX_steps hS ops.size 0 h0 hf0 (by simp [r0]) h
 split at h1
 ·cases h1
 ·rename_i hap
  refine ⟨r'.env, r'.sig, _, ?_, ?_, by rw [h3.sig]; exact h1⟩
  ·unfold evRegion
   simp only
   rw [List.range_eq_range']
   simp only [r0] at h2
   rw [h2]
   simp only
   rw [if_neg]
   simp only [Bool.and_eq_true, Bool.not_eq_true', not_and, Bool.not_eq_false] at hap ⊢
   intro hdr
   refine apartOk_le (r' := { env := [], sig := x'.sig, tl := joinLog x'.tl x'.gl, ll := x'.ll }) (fun {j ids} hj => ?_) h3.ll (hap hdr)
   have hlt : j < x'.gl.length := by
    rw [h3.tl.lenG, <- h3.tl.len]; exact (List.getElem?_eq_some_iff.1 hj).1
   cases hx : x'.gl[j]? with
   | none => rw [List.getElem?_eq_none_iff] at hx; omega
   | some t => cases t with
    | none => exact joinLog_get h3.tl.lenG.symm (.inr ⟨hx, by rw [<- h3.tl.same j hx]; exact hj⟩)
    | some js =>
     rcases (h3.tl.may j js hx).2 with q | q
     ·rw [q] at hj; cases hj
     ·rw [q] at hj; simp only [Option.some.injEq] at hj; subst hj
      exact joinLog_get h3.tl.lenG.symm (.inl hx)
  ·refine ⟨h3.E.len, fun d v hv hd => ?_⟩
   obtain ⟨u, k1, k2, k3⟩ := tidy_look _ _ hv (by simp)
   refine ⟨u, ?_, k2⟩
   refine h3.E.on d u hd k1 ?_
   have : (look x'.ch d).getD [] = [] := k3
   rw [this]; rfl
end
end Go.Eng
