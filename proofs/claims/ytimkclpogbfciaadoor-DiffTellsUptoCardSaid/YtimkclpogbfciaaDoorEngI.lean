/- The engine: of a drawn region: two operations that nothing orders. -/
import Derived.Test.YtimkclpogbfciaaDoorEngH
set_option linter.unusedVariables false
set_option linter.unusedSimpArgs false
namespace Go.Eng
open Go.RowKit
section
variable {P : Program} {ops : List Oper} {base : Nat} {o : Oper}
structure Mild (e e1 : Env) (s s1 : Sig) : Prop where
 at_ : ∀ k, (e1.at k).plain = (e.at k).plain
 truth : ∀ d, sameTruth e e1 d /\ sameTruth e1 e d
 sig : ∀ id, plainAt s1 id = plainAt s id
theorem Mild.refl (e : Env) (s : Sig) : Mild e e s s := ⟨fun _ => rfl, fun _ => ⟨⟨fun _ h => h, fun h => h⟩, ⟨fun _ h => h, fun h => h⟩⟩, fun _ => rfl⟩
theorem Mild.trans {e e1 e2 : Env} {s s1 s2 : Sig} (h : Mild e e1 s s1) (k : Mild e1 e2 s1 s2) : Mild e e2 s s2 :=
 ⟨fun x => (k.at_ x).trans (h.at_ x), fun d => ⟨⟨fun b hb => (k.truth d).1.1 b ((h.truth d).1.1 b hb), fun hb => (k.truth d).1.2 ((h.truth d).1.2 hb)⟩, ⟨fun b hb => (h.truth d).2.1 b ((k.truth d).2.1 b hb), fun hb => (h.truth d).2.2 ((k.truth d).2.2 hb)⟩⟩, fun id => (k.sig id).trans (h.sig id)⟩
theorem locOf_own {i : Nat} {e : Env} {sig : Sig} {tl : List (Option (List Nat))} {x : Operand} {l : Loc} {sz : Nat} {es : List T} (h : locOf P ops base i e.at sig tl x = some (l, sz, es)) :
  (∀ s, l = .slot s -> e.at s = .own sz es) /\ ∀ id off, l = .box id off -> ∃ cs, sig[id]? = some (some cs) /\ cs[off]? = some (.own sz es) := by
 unfold locOf at h
 split at h
 ·simp only [Option.some.injEq, Prod.mk.injEq] at h
  obtain ⟨rfl, _⟩ := h
  exact ⟨by simp, by simp⟩
 ·split at h
  ·simp only [Option.some.injEq, Prod.mk.injEq] at h
   obtain ⟨rfl, _⟩ := h
   exact ⟨by simp, by simp⟩
  ·rename_i hv
   simp only [Option.some.injEq, Prod.mk.injEq] at h
   obtain ⟨rfl, rfl, rfl⟩ := h
   exact ⟨fun s hs => by simp only [Loc.slot.injEq] at hs; subst hs; exact hv, by simp⟩
  ·split at h
   ·split at h
    ·split at h
     ·rename_i hv
      split at h
      ·simp only [Option.some.injEq, Prod.mk.injEq] at h
       obtain ⟨rfl, rfl, rfl⟩ := h
       exact ⟨fun s hs => by simp only [Loc.slot.injEq] at hs; subst hs; exact hv, by simp⟩
      ·cases h
     ·cases h
    ·split at h
     ·split at h
      ·rename_i cs hcs
       split at h
       ·rename_i hv
        split at h
        ·simp only [Option.some.injEq, Prod.mk.injEq] at h
         obtain ⟨rfl, rfl, rfl⟩ := h
         exact ⟨by simp, fun id off hl => by simp only [Loc.box.injEq] at hl; obtain ⟨rfl, rfl⟩ := hl; exact ⟨cs, hcs, hv⟩⟩
        ·cases h
       ·cases h
      ·cases h
     ·cases h
    ·cases h
   ·cases h
  ·cases h
 ·cases h
theorem getElem?_of_at {e : Env} {s : Nat} {v : V} (h : e.at s = v) (hv : v ≠ .undef) : e[s]? = some v := by
 simp only [Env.at, List.getD_eq_getElem?_getD] at h
 cases hs : e[s]? with
 | none => simp [hs] at h; exact absurd h.symm hv
 | some u => simp [hs] at h; rw [h]
theorem consume_mild {e : Env} {sig : Sig} {l : Loc} {sz : Nat} {es : List T} (h1 : ∀ s, l = .slot s -> e.at s = .own sz es) (h2 : ∀ id off, l = .box id off -> ∃ cs, sig[id]? = some (some cs) /\ cs[off]? = some (.own sz es)) :
  Mild e (consume e sig l es).1 sig (consume e sig l es).2 := by
 cases l with
 | slot s =>
  have hv := h1 s rfl
  have hs := getElem?_of_at hv (by simp)
  have hne : ∀ (d : Nat) (u : V), u ≠ V.own sz es -> u ≠ V.t (.list es) -> ((e.set s (.t (.list es)))[d]? = some u ↔ e[d]? = some u) := by
   intro d u h3 h4
   by_cases hd : s = d
   ·subst hd
    have hlt := (List.getElem?_eq_some_iff.1 hs).1
    simp only [List.getElem?_set_self hlt, hs, Option.some.injEq]
    constructor
    ·intro h; exact absurd h.symm h4
    ·intro h; exact absurd h.symm h3
   ·rw [List.getElem?_set_ne hd]
  refine ⟨fun k => ?_, fun d => ⟨⟨fun b hb => (hne d _ (by simp) (by simp)).2 hb, fun hb => (hne d _ (by simp) (by simp)).2 hb⟩, ⟨fun b hb => (hne d _ (by simp) (by simp)).1 hb, fun hb => (hne d _ (by simp) (by simp)).1 hb⟩⟩, fun id => rfl⟩
  simp only [consume]
  rw [at_set]
  split
  ·rename_i h; rw [<- h.1, hv]; rfl
  ·rfl
 | box id off =>
  obtain ⟨cs, hcs, ho⟩ := h2 id off rfl
  refine ⟨fun k => rfl, fun d => ⟨⟨fun _ h => h, fun h => h⟩, ⟨fun _ h => h, fun h => h⟩⟩, fun id' => ?_⟩
  simp only [consume, plainAt]
  by_cases hid : id = id'
  ·subst hid
   have hlt := (List.getElem?_eq_some_iff.1 hcs).1
   have : (sig.getD id none) = some cs := by simp [List.getD_eq_getElem?_getD, hcs]
   rw [List.getElem?_set_self hlt, this, hcs]
   simp only [Option.map_some, Option.some.injEq]
   apply List.ext_getElem?
   intro k
   simp only [List.getElem?_map, List.getElem?_set]
   split
   ·rename_i hk
    subst hk
    have hlt2 := (List.getElem?_eq_some_iff.1 ho).1
    simp only [hlt2, if_true, ho, Option.map_some, V.plain]
   ·rfl
  ·rw [List.getElem?_set_ne hid]
 | _ => exact Mild.refl _ _
theorem handOn_mild {all : Bool} {i : Nat} {e e1 : Env} {sig s1 : Sig} {tl : List (Option (List Nat))} {x : Operand} {v : V} (h : handOn P all ops base i e sig tl x = some (v, e1, s1)) : Mild e e1 sig s1 := by
 have hrd : ∀ {u : Option V}, u.map (fun y => (y, e, sig)) = some (v, e1, s1) -> Mild e e1 sig s1 := by
  intro u hu
  cases u with
  | none => simp at hu
  | some y => simp at hu; obtain ⟨_, rfl, rfl⟩ := hu; exact Mild.refl _ _
 unfold handOn at h
 split at h
 ·simp only [Option.some.injEq, Prod.mk.injEq] at h
  obtain ⟨_, rfl, rfl⟩ := h
  exact Mild.refl _ _
 ·rename_i l sz es hne hl
  split at h
  ·simp only [Option.some.injEq, Prod.mk.injEq] at h
   obtain ⟨_, rfl, rfl⟩ := h
   obtain ⟨h1, h2⟩ := locOf_own hl
   exact consume_mild h1 h2
  ·exact hrd h
 ·exact hrd h
theorem handAll_mild {i : Nat} {tl : List (Option (List Nat))} : ∀ {xs : List Operand} {e e1 : Env} {sig s1 : Sig} {vs : List V}, handAll P ops base i e sig tl xs = some (vs, e1, s1) -> Mild e e1 sig s1
 | [], e, e1, sig, s1, vs, h => by
  simp only [handAll, Option.some.injEq, Prod.mk.injEq] at h
  obtain ⟨_, rfl, rfl⟩ := h
  exact Mild.refl _ _
 | x :: xs, e, e1, sig, s1, vs, h => by
  simp only [handAll] at h
  split at h
  ·rename_i v e2 s2 h1
   split at h
   ·rename_i vs' e3 s3 h2
    simp only [Option.some.injEq, Prod.mk.injEq] at h
    obtain ⟨_, rfl, rfl⟩ := h
    exact (handOn_mild h1).trans (handAll_mild h2)
   ·cases h
  ·cases h
structure Struck (p : Nat) (o : Oper) (r r' : R) : Prop where
 at_ : ∀ k, o.dst ≠ some k -> (r'.env.at k).plain = (r.env.at k).plain
 truth : ∀ d, o.dst ≠ some d -> sameTruth r.env r'.env d /\ sameTruth r'.env r.env d
 sig : ∀ id, (∀ ids, r'.tl[p]? = some (some ids) -> id ∉ ids) -> plainAt r'.sig id = plainAt r.sig id
 tl : ∀ k, k ≠ p -> r'.tl[k]? = r.tl[k]?
 ll : ∀ k, k ≠ p -> r'.ll[k]? = r.ll[k]?
 len : r'.tl.length = r.tl.length
 lll : r'.ll.length = r.ll.length
theorem put_truth (e : Env) (dst : Option Nat) (v : V) {d : Nat} (h : dst ≠ some d) : sameTruth e (e.put dst v) d /\ sameTruth (e.put dst v) e d := by
 have : (e.put dst v)[d]? = e[d]? := by
  cases dst with
  | none => rfl
  | some k => simp only [Env.put]; rw [List.getElem?_set_ne (fun hh => h (by rw [hh]))]
 refine ⟨⟨fun b hb => ?_, fun hb => ?_⟩, ⟨fun b hb => ?_, fun hb => ?_⟩⟩ <;> simpa [this] using hb
theorem Mild.strike {r : R} {e1 : Env} {s1 s2 : Sig} {v : V} {tl : List (Option (List Nat))} {p : Nat} (h : Mild r.env e1 r.sig s1) (hs : ∀ id, (∀ ids, tl[p]? = some (some ids) -> id ∉ ids) -> plainAt s2 id = plainAt s1 id)
  (ht : tl = r.tl \/ ∃ x, tl = r.tl.set p x) : Struck p o r { env := e1.put o.dst v, sig := s2, tl := tl, ll := r.ll } := by
 refine ⟨fun k hk => by simp only; rw [at_put_ne hk]; exact h.at_ k, fun d hd => ?_, fun id hid => (hs id hid).trans (h.sig id), fun k hk => ?_, fun k hk => rfl, ?_, rfl⟩
 ·obtain ⟨h1, h2⟩ := h.truth d
  obtain ⟨k1, k2⟩ := put_truth e1 o.dst v hd
  exact ⟨⟨fun b hb => k1.1 b (h1.1 b hb), fun hb => k1.2 (h1.2 hb)⟩, ⟨fun b hb => h2.1 b (k2.1 b hb), fun hb => h2.2 (k2.2 hb)⟩⟩
 ·rcases ht with rfl | ⟨x, rfl⟩
  ·rfl
  ·simp only; rw [List.getElem?_set_ne (fun hh => hk hh.symm)]
 ·rcases ht with rfl | ⟨x, rfl⟩
  ·rfl
  ·simp
theorem evCall_sig {call : CallF} {f : FuncId} {vs : List V} {sig s3 : Sig} {v : V} {rts : List Nat} (h : evCall call f vs sig = some (v, s3, rts)) {id : Nat} (hid : id ∉ rts) : s3[id]? = sig[id]? := by
 unfold evCall at h
 simp only at h
 split at h
 ·rename_i hc
  simp only [Bool.and_eq_true] at hc
  split at h
  ·split at h
   ·split at h
    ·rename_i h5
     simp only [Option.some.injEq, Prod.mk.injEq] at h
     obtain ⟨rfl, rfl, rfl⟩ := h
     exact (sigBack_get (nodupB_spec hc.2) h5).2.1 id hid
    ·cases h
   ·cases h
  ·cases h
 ·cases h
theorem step_struck {call : CallF} {p : Nat} {r r' : R} (hi : ops[p]? = some o) (hE : isE o = true) (hpl : p < r.tl.length) (hs : step P call ops base p r = some r') : Struck p o r r' := by
 unfold step at hs
 simp only [hi] at hs
 split at hs
 ·cases hs
 ·simp only [Option.some.injEq] at hs
  subst hs
  exact (Mild.refl _ _).strike (fun _ _ => rfl) (.inl rfl)
 cases hop : o.op with
 | assign x =>
  simp only [hop] at hs
  split at hs
  ·rename_i v e1 s1 hh
   simp only [Option.some.injEq] at hs
   subst hs
   exact (handOn_mild hh).strike (fun _ _ => rfl) (.inl rfl)
  ·cases hs
 | store t ad x =>
  simp only [hop] at hs
  split at hs
  ·rename_i id off v e1 s1 n had hh hn
   split at hs
   ·rename_i cs hcs
    split at hs
    ·simp only [Option.some.injEq] at hs
     subst hs
     refine (handOn_mild hh).strike (fun id' hid' => ?_) (.inr ⟨_, rfl⟩)
     have : id' ≠ id := by
      intro hh'
      exact hid' [id] (by simp [hpl]) (by simp [hh'])
     simp only [plainAt]
     rw [List.getElem?_set_ne (fun hh => this hh.symm)]
    ·cases hs
   ·cases hs
  ·cases hs
 | call c =>
  simp only [hop] at hs
  cases hcl : c.callee with
  | invoke a b => simp only [hcl] at hs; cases hs
  | value fx =>
   simp only [hcl] at hs
   split at hs
   ·rename_i f caps vs e1 s1 hf hh
    split at hs
    ·rename_i v s2 roots hev
     simp only [Option.some.injEq] at hs
     subst hs
     refine (handAll_mild hh).strike (fun id' hid' => ?_) (.inr ⟨_, rfl⟩)
     simp only [plainAt]
     rw [evCall_sig hev (hid' roots (by simp [hpl]))]
    ·cases hs
   ·cases hs
  | builtin b =>
   cases b with
   | append =>
    simp only [hcl] at hs
    split at hs
    ·split at hs
     ·rename_i l sz es ys el hl hy ht
      split at hs
      ·split at hs
       ·simp only [Option.some.injEq] at hs
        subst hs
        obtain ⟨h1, h2⟩ := locOf_own hl
        exact (consume_mild h1 h2).strike (fun _ _ => rfl) (.inl rfl)
       ·cases hs
      ·cases hs
     ·cases hs
    ·cases hs
   | _ => simp only [isE, hop, hcl] at hE; cases hE
 | _ => simp only [isE, hop] at hE; cases hE
end
end Go.Eng
