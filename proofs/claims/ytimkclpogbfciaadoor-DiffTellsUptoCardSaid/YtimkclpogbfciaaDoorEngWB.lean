/- The engine: the symbolic walk is sound: second part, effects, calls, regions. -/
import Derived.Test.YtimkclpogbfciaaDoorEngWA
import Derived.Test.YtimkclpogbfciaaDoorEngK
set_option linter.unusedVariables false
set_option linter.unusedSimpArgs false
namespace Go.Eng
section
variable {P : Program} {n : Nat} {e : Env} {x : X} {c : Chain} {o : Oper} {ops : List Oper} {R : Type}
theorem locOf_congr {f f' : Nat -> V} {base i : Nat} {sig : Sig} {tl : List (Option (List Nat))} {xo : Operand} (h1 : ∀ d, xo = .tmp d -> f d = f' d)
  (h2 : ∀ d j o, xo = .tmp d -> writer ops d i = some (j, o) -> (∀ s, o.op = .move (.tmp s) -> f s = f' s) /\ ∀ t ad, o.op = .load t ad -> rdF f ad = rdF f' ad) :
  locOf P ops base i f sig tl xo = locOf P ops base i f' sig tl xo := by
 cases xo with
 | tmp d =>
  have e1 := h1 d rfl
  simp only [locOf, e1]
  cases hd : f' d with
  | t y =>
   cases y with
   | list es =>
    simp only
    cases hw : writer ops d i with
    | none => rfl
    | some p =>
     obtain ⟨j, o⟩ := p
     obtain ⟨k1, k2⟩ := h2 d j o rfl hw
     simp only
     cases hop : o.op with
     | move z =>
      cases z with
      | tmp s => simp only [k1 s hop]
      | _ => rfl
     | load t ad => simp only [k2 t ad hop]
     | _ => rfl
   | _ => rfl
  | _ => rfl
 | const v => cases v with
  | slice a b c => cases a <;> cases b <;> cases c <;> rfl
  | _ => rfl
 | _ => rfl
theorem locOf_logs {f : Nat -> V} {base i : Nat} {sig : Sig} {a b g : List (Option (List Nat))} {xo : Operand} (h : TlRel a b g) (hh : homeOk g (locOf P ops base i f sig b xo) = true) :
  locOf P ops base i f sig a xo = locOf P ops base i f sig b xo := by
 cases xo with
 | tmp d =>
  simp only [locOf] at hh ⊢
  cases hd : f d with
  | t y =>
   cases y with
   | list es =>
    simp only [hd] at hh ⊢
    cases hw : writer ops d i with
    | none => rfl
    | some p =>
     obtain ⟨j, o⟩ := p
     simp only [hw] at hh ⊢
     cases hop : o.op with
     | move z => cases z <;> rfl
     | load t ad =>
      simp only [hop] at hh ⊢
      split
      ·rename_i id off had hag
       simp only [had, hag] at hh
       split
       ·rename_i cs hcs
        simp only [hcs] at hh
        split
        ·rename_i sz es' hes
         simp only [hes] at hh
         split
         ·rename_i ha
          split
          ·rfl
          ·rename_i hb
           simp only [Bool.and_eq_true] at ha hb
           exact absurd ⟨ha.1, h.all_le _ rfl ha.2⟩ hb
         ·rename_i ha
          split
          ·rename_i hb
           rw [if_pos hb] at hh
           simp only [Bool.and_eq_true] at ha hb
           have hh' : g.all (fun x => match x with | some ids => !ids.contains id | none => true) = true := hh
           exact absurd ⟨hb.1, (h.all (fun x => match x with | some ids => !ids.contains id | none => true) rfl hh').trans hb.2⟩ ha
          ·rfl
        ·rfl
       ·rfl
      ·rfl
     | _ => rfl
   | _ => rfl
  | _ => rfl
 | const v => cases v with
  | slice a b c => cases a <;> cases b <;> cases c <;> rfl
  | _ => rfl
 | _ => rfl
theorem srcOk_spec {i d : Nat} (h : srcOk ops n i x c (.tmp d) = true) {j : Nat} {o' : Oper} (hw : writer ops d i = some (j, o')) :
  (∀ s, o'.op = .move (.tmp s) -> opndOk n x c (.tmp s) = true) /\ ∀ t ad, o'.op = .load t ad -> opndOk n x c ad = true := by
 simp only [srcOk, hw] at h
 exact ⟨fun s hs => by simpa [hs] using h, fun t ad hs => by simpa [hs] using h⟩
theorem locOf_real (hE : RelE n e x.env x.ch) {tl : List (Option (List Nat))} (htl : TlRel tl x.tl x.gl) (hc : chainB x.env.at c = true) {base i : Nat} {sig : Sig} {xo : Operand} (h1 : opndOk n x c xo = true) (h2 : srcOk ops n i x c xo = true)
  (hh : homeOk x.gl (locOf P ops base i x.env.at sig x.tl xo) = true) : locOf P ops base i e.at sig tl xo = locOf P ops base i x.env.at sig x.tl xo := by
 rw [<- locOf_logs htl hh]
 refine locOf_congr (fun d hd => ?_) (fun d j o' hd hw => ?_)
 ·subst hd; exact (hE.slot hc h1).1
 ·subst hd
  obtain ⟨k1, k2⟩ := srcOk_spec h2 hw
  exact ⟨fun s hs => (hE.slot hc (k1 s hs)).1, fun t ad hs => hE.opnd hc (k2 t ad hs)⟩
theorem locOf_slot {f : Nat -> V} {base i : Nat} {sig : Sig} {tl : List (Option (List Nat))} {xo : Operand} {s sz : Nat} {es : List T} (h : locOf P ops base i f sig tl xo = some (.slot s, sz, es)) :
  f s = .own sz es /\ (xo = .tmp s \/ ∃ d j o, xo = .tmp d /\ writer ops d i = some (j, o) /\ o.op = .move (.tmp s)) := by
 unfold locOf at h
 split at h
 ·simp at h
 ·rename_i d
  split at h
  ·simp at h
  ·rename_i sz' es' hd
   simp only [Option.some.injEq, Prod.mk.injEq, Loc.slot.injEq] at h
   obtain ⟨rfl, rfl, rfl⟩ := h
   exact ⟨hd, .inl rfl⟩
  ·split at h
   ·rename_i j o' hw
    split at h
    ·rename_i s' hop
     split at h
     ·rename_i sz' es' hs
      split at h
      ·simp only [Option.some.injEq, Prod.mk.injEq, Loc.slot.injEq] at h
       obtain ⟨rfl, rfl, rfl⟩ := h
       exact ⟨hs, .inr ⟨d, j, o', rfl, hw, hop⟩⟩
      ·cases h
     ·cases h
    ·split at h
     ·split at h
      ·split at h
       ·split at h <;> simp at h
       ·cases h
      ·cases h
     ·cases h
    ·cases h
   ·cases h
  ·cases h
 ·cases h
theorem opndOk_nil {d : Nat} (h : opndOk n x [] (.tmp d) = true) : d < n /\ (look x.env d).isSome = true /\ x.chain d = [] := by
 simp only [opndOk, Bool.and_eq_true, decide_eq_true_eq] at h
 refine ⟨h.1.1, h.1.2, ?_⟩
 have := h.2
 cases hc : x.chain d with
 | nil => rfl
 | cons p r => simp [within, hc, inChain] at this
theorem RelE.give (h : RelE n e x.env x.ch) {s sz : Nat} {es : List T} (hs : x.env.at s = .own sz es) (hlt : s < n) (hch : x.chain s = []) (w : V) (hw : truthOf w = false) :
  RelE n (e.set s w) (x.env.put (some s) w) x.ch := by
 have hcc : ∀ c : Chain, chainB (x.env.put (some s) w).at c = chainB x.env.at c := by
  intro c
  refine chainB_congr fun p _ => ?_
  rw [SEnv.put_at]
  split
  ·rename_i hp; rw [hw, <- hp, hs]; rfl
  ·rfl
 refine ⟨by simp [h.len], fun k v hk hv hc => ?_, fun k hk hv hc => ?_⟩
 ·rw [hcc] at hc
  simp only [SEnv.put, look_cons] at hv
  by_cases hsk : s = k
  ·subst hsk
   simp only [if_true, Option.some.injEq] at hv
   rw [at_set_self (by rw [h.len]; exact hlt), hv]
  ·simp only [hsk, if_false] at hv
   rw [at_set_ne hsk]
   exact h.on k v hk hv hc
 ·rw [hcc] at hc
  simp only [SEnv.put, look_cons] at hv
  by_cases hsk : s = k
  ·subst hsk
   have hx : (look x.ch s).getD [] = [] := hch
   rw [hx] at hc
   simp [chainB] at hc
  ·simp only [hsk, if_false] at hv
   rw [at_set_ne hsk]
   exact h.off k hk hv hc
theorem consumeX_sound (hE : RelE n e x.env x.ch) {base i : Nat} {sig : Sig} {tl : List (Option (List Nat))} {xo : Operand} {l : Loc} {sz : Nat} {es : List T} (hl : locOf P ops base i x.env.at sig tl xo = some (l, sz, es)) (h1 : opndOk n x [] xo = true) (h2 : srcOk ops n i x [] xo = true) :
  (consume e sig l es).2 = (consumeX x.env sig l es).2 /\ RelE n (consume e sig l es).1 (consumeX x.env sig l es).1 x.ch := by
 cases l with
 | slot s =>
  obtain ⟨k1, k2⟩ := locOf_slot hl
  have k3 : opndOk n x [] (.tmp s) = true := by
   rcases k2 with k2 | ⟨d, j, o', k2, k3, k4⟩
   ·rw [<- k2]; exact h1
   ·subst k2; exact (srcOk_spec h2 k3).1 s k4
  obtain ⟨k4, k5, k6⟩ := opndOk_nil k3
  exact ⟨rfl, hE.give k1 k4 k6 _ rfl⟩
 | _ => exact ⟨rfl, hE⟩
theorem consumeX_known {E : SEnv} {sig : Sig} {l : Loc} {es : List T} {d : Nat} (h : (look E d).isSome = true) : (look (consumeX E sig l es).1 d).isSome = true := by
 cases l with
 | slot s => simp only [consumeX, SEnv.put, look_cons]; split <;> simp [h]
 | _ => exact h
theorem opndOk_known {E : SEnv} (h : ∀ d, (look x.env d).isSome = true -> (look E d).isSome = true) {xo : Operand} (hx : opndOk n x c xo = true) : opndOk n { x with env := E } c xo = true := by
 cases xo with
 | tmp d =>
  simp only [opndOk, Bool.and_eq_true, decide_eq_true_eq] at hx ⊢
  exact ⟨⟨hx.1.1, h d hx.1.2⟩, hx.2⟩
 | _ => rfl
theorem srcOk_known {E : SEnv} (h : ∀ d, (look x.env d).isSome = true -> (look E d).isSome = true) {i : Nat} {xo : Operand} (hx : srcOk ops n i x c xo = true) : srcOk ops n i { x with env := E } c xo = true := by
 cases xo with
 | tmp d =>
  cases hw : writer ops d i with
  | none => simp only [srcOk, hw]
  | some p =>
   obtain ⟨j, o'⟩ := p
   obtain ⟨k1, k2⟩ := srcOk_spec hx hw
   simp only [srcOk, hw]
   cases hop : o'.op with
   | move z =>
    cases z with
    | tmp s => exact opndOk_known h (k1 s hop)
    | _ => rfl
   | load t ad => exact opndOk_known h (k2 t ad hop)
   | _ => rfl
 | _ => rfl
theorem handOnX_sound (hE : RelE n e x.env x.ch) {tl : List (Option (List Nat))} (htl : TlRel tl x.tl x.gl) (hc : chainB x.env.at c = true) {all : Bool} {base i : Nat} {sig sig1 : Sig} {xo : Operand} (h1 : opndOk n x c xo = true) (h2 : srcOk ops n i x c xo = true)
  {v : V} {E1 : SEnv} {b : Bool} (h : handOnX P all ops base i x.env sig x.tl x.gl xo = some (v, E1, sig1, b)) (hb : b = true -> c = []) :
  ∃ e1, handOn P all ops base i e sig tl xo = some (v, e1, sig1) /\ RelE n e1 E1 x.ch /\ (b = false -> E1 = x.env /\ sig1 = sig /\ e1 = e) /\ ∀ d, (look x.env d).isSome = true -> (look E1 d).isSome = true := by
 unfold handOnX at h
 unfold handOn
 split at h
 case isFalse => cases h
 rename_i hhome
 rw [locOf_real hE htl hc h1 h2 hhome]
 split at h
 ·rename_i hl
  simp only [Option.some.injEq, Prod.mk.injEq] at h
  obtain ⟨rfl, rfl, rfl, rfl⟩ := h
  rw [hl]
  exact ⟨e, rfl, hE, fun _ => ⟨rfl, rfl, rfl⟩, fun _ h => h⟩
 ·rename_i l sz es hne hl
  have hl' : locOf P ops base i x.env.at sig x.tl xo = some (l, sz, es) := hl
  rw [hl]
  have hrd : rdF e.at xo = rdF x.env.at xo := hE.opnd hc h1
  split at h
  ·rename_i hg
   simp only [Option.some.injEq, Prod.mk.injEq] at h
   obtain ⟨rfl, rfl, rfl, rfl⟩ := h
   have hcn := hb rfl
   subst hcn
   obtain ⟨k1, k2⟩ := consumeX_sound hE hl' h1 h2
   refine ⟨(consume e sig l es).1, ?_, k2, fun h => by simp at h, fun d hd => consumeX_known hd⟩
   cases l with
   | nil => exact (hne rfl).elim
   | _ => simp only [hg, if_true, k1]
  ·rename_i hg
   rw [<- hrd] at h
   cases hr : rdF e.at xo with
   | none => simp [hr] at h
   | some u =>
    simp [hr] at h
    obtain ⟨rfl, rfl, rfl, rfl⟩ := h
    refine ⟨e, ?_, hE, fun _ => ⟨rfl, rfl, rfl⟩, fun _ h => h⟩
    cases l with
    | nil => exact (hne rfl).elim
    | _ => simp only [hg, rd, hr]; rfl
 ·rename_i hl
  rw [hl]
  have hrd : rdF e.at xo = rdF x.env.at xo := hE.opnd hc h1
  rw [<- hrd] at h
  cases hr : rdF e.at xo with
  | none => simp [hr] at h
  | some u =>
   simp [hr] at h
   obtain ⟨rfl, rfl, rfl, rfl⟩ := h
   exact ⟨e, by simp [rd, hr], hE, fun _ => ⟨rfl, rfl, rfl⟩, fun _ h => h⟩
theorem handAllX_sound {tl : List (Option (List Nat))} {base i : Nat} : ∀ {xs : List Operand} {x : X} {e : Env} (hE : RelE n e x.env x.ch) (htl : TlRel tl x.tl x.gl) (hc : chainB x.env.at c = true) {sig sig1 : Sig} (h1 : ∀ xo ∈ xs, opndOk n x c xo = true) (h2 : ∀ xo ∈ xs, srcOk ops n i x c xo = true)
  {vs : List V} {E1 : SEnv} {b : Bool} (h : handAllX P ops base i x.env sig x.tl x.gl xs = some (vs, E1, sig1, b)) (hb : b = true -> c = []),
  ∃ e1, handAll P ops base i e sig tl xs = some (vs, e1, sig1) /\ RelE n e1 E1 x.ch /\ (b = false -> E1 = x.env /\ sig1 = sig /\ e1 = e)
 | [], x, e, hE, htl, hc, sig, sig1, h1, h2, vs, E1, b, h, hb => by
  simp only [handAllX, Option.some.injEq, Prod.mk.injEq] at h
  obtain ⟨rfl, rfl, rfl, rfl⟩ := h
  exact ⟨e, rfl, hE, fun _ => ⟨rfl, rfl, rfl⟩⟩
 | xo :: xs, x, e, hE, htl, hc, sig, sig1, h1, h2, vs, E1, b, h, hb => by
  simp only [handAllX] at h
  split at h
  ·rename_i v e0 s0 b0 ho
   split at h
   ·rename_i vs' e2 s2 b2 ha
    simp only [Option.some.injEq, Prod.mk.injEq] at h
    obtain ⟨rfl, rfl, rfl, rfl⟩ := h
    obtain ⟨f1, k1, k2, k3, k4⟩ := handOnX_sound hE htl hc (h1 xo (by simp)) (h2 xo (by simp)) ho (fun h => hb (by simp [h]))
    have hc0 : chainB e0.at c = true := by
     cases b0 with
     | true => rw [hb (by simp)]; rfl
     | false => rw [(k3 rfl).1]; exact hc
    obtain ⟨f2, q1, q2, q3⟩ := handAllX_sound (x := { x with env := e0 }) (e := f1) k2 htl hc0 (fun y hy => opndOk_known k4 (h1 y (by simp [hy]))) (fun y hy => srcOk_known k4 (h2 y (by simp [hy]))) ha (fun h => hb (by simp [h]))
    refine ⟨f2, by simp only [handAll, k1, q1], q2, fun hbb => ?_⟩
    simp only [Bool.or_eq_false_iff] at hbb
    obtain ⟨a1, a2, a3⟩ := k3 hbb.1
    obtain ⟨b1, b2, b3⟩ := q3 hbb.2
    exact ⟨b1.trans a1, b2.trans a2, b3.trans a3⟩
   ·cases h
  ·cases h
def FuncOk (P : Program) (f : FuncId) (vs : List V) (sig : Sig) (v : V) (s : Sig) : Prop :=
 CallSound P f vs sig v s /\ ∃ fn, P.funcs[f]? = some fn /\ (fn.name == "runtime.NumGoroutine") = false /\ fn.body.isSome = true
def CallsOk (P : Program) (spec : Spec) : Prop := ∀ f vs sig cm x, spec.call f vs sig = some cm -> cm.m = some x -> FuncOk P f vs sig (cm.enc x).1 (cm.enc x).2
def Spec.callF (spec : Spec) : CallF := fun f vs sig =>
 match spec.call f vs sig with
 | some cm => cm.m.map cm.enc
 | none => none
theorem callF_sound {spec : Spec} (h : CallsOk P spec) : CallFSound P spec.callF := by
 intro f vs sig res sig' hr
 unfold Spec.callF at hr
 split at hr
 ·rename_i cm hcm
  obtain ⟨y, hy, hr⟩ := Option.map_eq_some_iff.1 hr
  have := h f vs sig cm y hcm hy
  rw [hr] at this
  exact this
 ·cases hr
theorem callF_some {spec : Spec} {f : FuncId} {vs : List V} {sig : Sig} {cm : CallM} {y : cm.α} (hc : spec.call f vs sig = some cm) (hm : cm.m = some y) : spec.callF f vs sig = some (cm.enc y) := by
 unfold Spec.callF
 simp only [hc, hm, Option.map_some]
def Steps1 (P : Program) (spec : Spec) (ops : List Oper) (base n i : Nat) (r : Go.Eng.R) (K : X -> Option R) (res : R) : Prop :=
 ∃ x' r', K x' = some res /\ step P spec.callF ops base i r = some r' /\ RelX n r' x'
theorem opndsOk_all (h : opndsOk n x c o = true) (hnp : ∀ a b d, o.op ≠ .pick a b d) : ∀ xo ∈ o.op.operands, opndOk n x c xo = true := by
 unfold opndsOk at h
 split at h
 ·rename_i hop; exact absurd hop (hnp _ _ _)
 ·intro xo hx; exact List.all_eq_true.1 h xo (by simpa using hx)
theorem step_not {spec : Spec} {base i : Nat} {r : Go.Eng.R} (hi : ops[i]? = some o) (hw : wantedV ops r.env o = some false) : step P spec.callF ops base i r = some { r with env := r.env.put o.dst .undef } := by
 unfold step
 simp only [hi, hw]
theorem quiet_plain {base i : Nat} {sig : Sig} {t : Option (Option (List Nat))} (hw : wantedV ops e o = some true) (ha : isAlloc o = false) : quiet P ops base i o e sig t = (evN P (rd e) sig o).map fun q => (q.1, none, some q.2) := by
 unfold quiet
 simp only [hw]
 cases hop : o.op <;> first | rfl | simp [isAlloc, hop] at ha
theorem step_plain {spec : Spec} {base i : Nat} {r : Go.Eng.R} {v : V} {ld : Option Nat} (hi : ops[i]? = some o) (hE : isE o = false) (ha : isAlloc o = false) (hw : wantedV ops r.env o = some true) (hv : evN P (rd r.env) r.sig o = some (v, ld)) :
  step P spec.callF ops base i r = some { r with env := r.env.put o.dst v, ll := r.ll.set i ld } := by
 rw [step_quietly hi hE, quiet_plain hw ha, hv]
 rfl
theorem LlRel.skip {a b : List (Option Nat)} (h : LlRel a b) (ha : ∀ i : Nat, i < a.length -> a[i]? = some none -> True) : LlRel a b := h
def Fresh (i : Nat) (r : Go.Eng.R) : Prop := (∀ k, i <= k -> k < r.ll.length -> r.ll[k]? = some none) /\ (∀ k, i <= k -> k < r.tl.length -> r.tl[k]? = some none)
theorem LlRel.late {a b : List (Option Nat)} (h : LlRel a b) {i : Nat} (hf : i < a.length -> a[i]? = some none) (t : Option Nat) : LlRel a (b.set i t) := by
 refine ⟨by simp [h.1], fun k => ?_⟩
 by_cases hk : i = k
 ·subst hk
  by_cases hl : i < a.length
  ·exact .inr (hf hl)
  ·left; rw [List.getElem?_eq_none (by simpa using hl), List.getElem?_eq_none (by simpa [<- h.1] using hl)]
 ·rw [List.getElem?_set_ne hk]; exact h.2 k
theorem isE_pick (h : ∃ a b d, o.op = .pick a b d) : isE o = false /\ isAlloc o = false := by
 obtain ⟨a, b, d, h⟩ := h
 simp [isE, isAlloc, h]
theorem quietX_step {spec : Spec} {base i : Nat} {r : Go.Eng.R} {K : X -> Option R} {res : R} (hr : RelX n r x) (hf : Fresh i r) (hi : ops[i]? = some o) (hg : guardX ops n x o = some c) (ho : opndsOk n x c o = true) (hd : dstOk n x c o.dst = true)
  (hE : isE o = false) (ha : isAlloc o = false) (h : quietM P x.env.at x.sig c o (fun v ld => K { x.put o.dst v c with ll := x.ll.set i ld }) = some res) : Steps1 P spec ops base n i r K res := by
 have hw := guardX_ok hr.E hg
 have hput : ∀ {u v : V}, (chainB x.env.at c = true -> u = v) -> (chainB x.env.at c = false -> u = .undef) -> RelE n (r.env.put o.dst u) (x.put o.dst v c).env (x.put o.dst v c).ch := fun h1 h2 => hr.E.put hd _ h1 h2
 have done : ∀ {v : V} {ld : Option Nat}, (chainB x.env.at c = true -> evN P (rd r.env) r.sig o = some (v, ld)) -> K { x.put o.dst v c with ll := x.ll.set i ld } = some res -> Steps1 P spec ops base n i r K res := by
  intro v ld hv hK
  cases hc : chainB x.env.at c with
  | true =>
   rw [hc] at hw
   refine ⟨_, _, hK, step_plain hi hE ha hw (hv hc), ⟨hput (fun _ => rfl) (fun h => by rw [hc] at h; cases h), ?_, ?_, hr.ll.set i ld⟩⟩
   ·cases o.dst <;> exact hr.sig
   ·cases o.dst <;> exact hr.tl
  | false =>
   rw [hc] at hw
   refine ⟨_, _, hK, step_not hi hw, ⟨hput (fun h => by rw [hc] at h; cases h) (fun _ => rfl), ?_, ?_, ?_⟩⟩
   ·cases o.dst <;> exact hr.sig
   ·cases o.dst <;> exact hr.tl
   ·exact hr.ll.late (fun hl => hf.1 i (Nat.le_refl i) hl) ld
 by_cases hp : ∃ a b d, o.op = .pick a b d
 ·obtain ⟨cd, a, b, hop⟩ := hp
  obtain ⟨q, v, h1, h2, h3⟩ := pick_sound hop h
  refine done (ld := none) (fun hc => ?_) h2
  cases cd with
  | tmp d =>
   simp only [opndsOk, hop, Bool.and_eq_true] at ho
   have hcd := hr.E.opnd hc ho.1.1
   have hq : truthOf (x.env.at d) = q := by
    simp only [rdF, Option.some.injEq] at h1
    cases hx : x.env.at d <;> simp [hx, V.plain] at h1
    subst h1; rfl
   have hcq : ∀ w, q = w -> chainB x.env.at ((d, w) :: c) = true := by
    intro w hw
    rw [chainB_cons, hc, hq, lit_beq, hw]; simp
   exact h3 (rd r.env) r.sig hcd (fun hq => hr.E.opnd (hcq true hq) ho.1.2) (fun hq => hr.E.opnd (hcq false hq) ho.2)
  | _ =>
   simp only [opndsOk, hop] at ho
   have hall : ∀ xo ∈ (Op.pick _ a b).operands, opndOk n x c xo = true := fun xo hx => List.all_eq_true.1 ho xo (by simpa using hx)
   exact h3 (rd r.env) r.sig (hr.E.opnd hc (hall _ (by simp [Op.operands]))) (fun _ => hr.E.opnd hc (hall _ (by simp [Op.operands]))) (fun _ => hr.E.opnd hc (hall _ (by simp [Op.operands])))
 ·have hnp : ∀ a b d, o.op ≠ .pick a b d := fun a b d hh => hp ⟨a, b, d, hh⟩
  obtain ⟨v, ld, h1, h2⟩ := quietM_sound hnp h
  refine done (fun hc => ?_) h2
  refine evN_congr (h1 hc) (fun xo hx => hr.E.opnd hc (opndsOk_all ho hnp xo hx)) (fun id _ => by rw [hr.sig])
theorem allocX_step {spec : Spec} {base i : Nat} {r : Go.Eng.R} {K : X -> Option R} {res : R} (hr : RelX n r x) (hgf : freshG x.gl i = true) (hi : ops[i]? = some o) (hg : guardX ops n x o = some c) (ho : opndsOk n x c o = true) (hd : dstOk n x c o.dst = true)
  (h : allocX P ops base i x c o K = some res) : Steps1 P spec ops base n i r K res := by
 have hw := guardX_ok hr.E hg
 unfold allocX at h
 cases c with
 | cons p c => cases h
 | nil =>
  have hw : wantedV ops r.env o = some true := hw
  have htl : x.tl[i]? = some none -> r.tl[i]? = some none := fun ht => by rw [hr.tl.same i (freshG_some hgf)]; exact ht
  simp only at h
  split at h
  ·rename_i t hop
   split at h
   ·rename_i cs hcs ht
    refine ⟨_, { r with env := r.env.put o.dst (.ptr (base + boxNo ops i) 0), sig := r.sig.set (base + boxNo ops i) (some cs), tl := r.tl.set i (some [base + boxNo ops i]) }, h, ?_, ?_⟩
    ·unfold step
     simp only [hi, hw, hop, hcs, htl ht]
    ·have hE := hr.E.put (c := []) hd (.ptr (base + boxNo ops i) 0) (fun _ => rfl) (fun hh => by simp [chainB] at hh)
     refine ⟨?_, ?_, ?_, ?_⟩
     ·cases hdst : o.dst <;> (rw [hdst] at hE; exact hE)
     ·cases o.dst <;> (simp only [X.put, hr.sig])
     ·cases o.dst <;> exact hr.tl.set hgf _
     ·cases o.dst <;> exact hr.ll
   ·cases h
  ·rename_i t xo hop
   split at h
   ·rename_i v m hv hm ht
    split at h
    ·rename_i hh
     have hrd : rd r.env xo = some v := by
      rw [<- hv]
      exact hr.E.opnd (c := []) rfl (opndsOk_all ho (by simp [hop]) xo (by simp [hop, Op.operands]))
     refine ⟨_, { r with env := r.env.put o.dst (.ptr (base + boxNo ops i) 0), sig := r.sig.set (base + boxNo ops i) (some (v.cells.map V.plain)), tl := r.tl.set i (some [base + boxNo ops i]) }, h, ?_, ?_⟩
     ·unfold step
      simp only [hi, hw, hop, hrd, hm, htl ht]
      rw [if_pos hh]
     ·have hE := hr.E.put (c := []) hd (.ptr (base + boxNo ops i) 0) (fun _ => rfl) (fun hh => by simp [chainB] at hh)
      refine ⟨?_, ?_, ?_, ?_⟩
      ·cases hdst : o.dst <;> (rw [hdst] at hE; exact hE)
      ·cases o.dst <;> (simp only [X.put, hr.sig])
      ·cases o.dst <;> exact hr.tl.set hgf _
      ·cases o.dst <;> exact hr.ll
    ·cases h
   ·cases h
  ·cases h
end
end Go.Eng
