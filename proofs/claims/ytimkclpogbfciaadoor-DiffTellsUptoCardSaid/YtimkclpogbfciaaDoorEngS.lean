/- The engine, eighth part: slots that are written, slices that are handed on. -/
import Derived.Test.YtimkclpogbfciaaDoorEngP
set_option linter.unusedVariables false
set_option linter.unusedSimpArgs false
namespace Go.Eng
open Go.RowKit
section
variable {P : Program} {w : World} {g : Gh} {e : Env} {a : Act} {sig : Sig} {base : Nat}
def Gh.owners (g : Gh) (O : Nat -> Option Loc) : Gh := { g with O := O }
theorem Later.owners (O : Nat -> Option Loc) : Later w g w (g.owners O) := ⟨Keeps.refl _ _, fun _ _ h => h⟩
theorem WF.owners (hW : WF P w g) {O : Nat -> Option Loc} (h1 : ∀ b, O b ≠ some .nil) (h2 : ∀ b l, O b = some l -> ∃ l', g.O b = some l') : WF P w (g.owners O) :=
 ⟨hW.lt, hW.ltφ, h1, fun b l h => by obtain ⟨l', h'⟩ := h2 b l h; exact hW.own b l' h', hW.globs (Nat.le_refl _) (fun _ _ => rfl) (fun b hb => by
  cases hO : O b with
  | none => exact hO
  | some l => obtain ⟨l', h'⟩ := h2 b l hO; rw [(hW.glob b hb).2.2.1] at h'; cases h') (fun b hb => (hW.glob b hb).2.2.2)⟩
theorem RelV.owners (hW : WF P w g) {O : Nat -> Option Loc} {l l' : Loc} (h : ∀ b, g.O b = some l -> O b = some l') {v : V} {x : Value} (hr : RelV w g l v x) : RelV w (g.owners O) l' v x :=
 RelV.later (Later.owners O) hW.noNil (fun b hb => ⟨h b hb, rfl, rfl⟩) hr
theorem SimB.owners (hW : WF P w g) (hB : SimB w g sig) {O : Nat -> Option Loc} (h : ∀ b id off, g.O b = some (.box id off) -> O b = some (.box id off)) : SimB w (g.owners O) sig :=
 ⟨fun id b hb => by
  obtain ⟨cs, c, el, h1, h2, h3, h4⟩ := hB.box id b hb
  exact ⟨cs, c, el, h1, h2, h3, fun k v x hv hx => ⟨(h4 k v x hv hx).1.owners hW (fun b hb => h b id k hb), (h4 k v x hv hx).2⟩⟩,
  hB.inj, hB.apart⟩
theorem SimE.owners (hW : WF P w g) (hE : SimE w g e a) {O : Nat -> Option Loc} (h : ∀ b s, g.O b = some (.slot s) -> O b = some (.slot s)) : SimE w (g.owners O) e a :=
 ⟨hE.size, fun s hs => (hE.at_ s hs).owners hW (fun b hb => h b s hb)⟩
theorem getD_put (a : Act) (d : Nat) (x : Value) (s : Nat) : (a.put (some d) x).tmps.getD s undef = if d = s /\ d < a.tmps.size then x else a.tmps.getD s undef := by
 simp only [Act.put, Array.getD_eq_getD_getElem?]
 by_cases h : d = s
 ·subst h
  by_cases hl : d < a.tmps.size
  ·simp [hl]
  ·simp [hl]
 ·simp [h, Array.getElem?_setIfInBounds_ne h]
theorem at_set (e : Env) (d : Nat) (v : V) (s : Nat) : Env.at (e.set d v) s = if d = s /\ d < e.length then v else e.at s := by
 simp only [Env.at, List.getD_eq_getElem?_getD]
 by_cases h : d = s
 ·subst h
  by_cases hl : d < e.length
  ·simp [hl]
  ·simp [hl]
 ·simp [h, List.getElem?_set_ne h]
def moveHome (O : Nat -> Option Loc) (l : Loc) (d : Nat) : Nat -> Option Loc := fun b => if O b = some (.slot d) then none else if O b = some l then some (.slot d) else O b
theorem put_sim (hW : WF P w g) (hE : SimE w g e a) {d : Nat} {l : Loc} {v : V} {x : Value} (hl : l ≠ .nil) (hl2 : ∀ s, l ≠ .slot s) (hr : RelV w g l v x) :
  SimE w (g.owners (moveHome g.O l d)) (e.set d v) (a.put (some d) x) := by
 refine ⟨by simp [Act.put, hE.size], fun s hs => ?_⟩
 rw [at_set, getD_put, hE.size]
 simp at hs
 split
 ·rename_i h
  obtain ⟨rfl, _⟩ := h
  exact hr.owners hW (fun b hb => by unfold moveHome; rw [if_neg (by rw [hb]; simp; exact hl2 d), if_pos hb])
 ·rename_i h
  refine (hE.at_ s hs).owners hW (fun b hb => ?_)
  unfold moveHome
  have hds : d ≠ s := fun hd => h ⟨hd, by omega⟩
  rw [if_neg (by rw [hb]; simp; omega), if_neg (by rw [hb]; simp; exact fun h => hl2 s h.symm)]
  exact hb
def NoArg (g : Gh) : Prop := ∀ b k, g.O b ≠ some (.arg k)
def NoRes (g : Gh) : Prop := ∀ b, g.O b ≠ some .res
structure Claims (P : Program) (ops : List Oper) (dn : Nat -> Prop) (w : World) (g : Gh) (e : Env) (tl : List (Option (List Nat))) (a : Act) : Prop where
 move : ∀ (j : Nat) (o : Oper) (s d : Nat), dn j -> ops[j]? = some o -> o.op = .move (.tmp s) -> o.dst = some d -> (∀ (k : Nat) (ok : Oper), ops[k]? = some ok -> ok.dst = some d -> k = j) -> (∀ (k : Nat) (ok : Oper), dn k -> ops[k]? = some ok -> ok.dst ≠ some s) →
  e.at d = .undef \/ a.tmps.getD d undef = a.tmps.getD s undef
 load : ∀ (j : Nat) (o : Oper) (t : TypeId) (ad : Operand) (d id off : Nat), dn j -> ops[j]? = some o -> o.op = .load t ad -> o.dst = some d -> (∀ (k : Nat) (ok : Oper), ops[k]? = some ok -> ok.dst = some d -> k = j) →
  (∃ p, ad = .tmp p /\ ((∀ (k : Nat) (ok : Oper), ops[k]? = some ok -> ok.dst ≠ some p) \/ ∃ j', j' < j /\ ∀ (k : Nat) (ok : Oper), ops[k]? = some ok -> ok.dst = some p -> k = j')) →
  rd e ad = some (.ptr id off) -> tyAgg P t = some false -> (∀ (k : Nat) (ids : List Nat), tl[k]? = some (some ids) -> id ∉ ids) -> e.at d = .undef \/ ∃ b, g.φ id = some b /\ w.cell? ⟨b, off, none⟩ = some (a.tmps.getD d undef)
theorem writer_spec {ops : List Oper} {d i j : Nat} {o : Oper} (h : writer ops d i = some (j, o)) : j < i /\ ops[j]? = some o /\ o.dst = some d /\ ∀ (k : Nat) ok, ops[k]? = some ok -> ok.dst = some d -> k = j := by
 unfold writer at h
 split at h
 ·rename_i o' j' hf
  split at h
  ·rename_i hlt
   simp only [Option.some.injEq, Prod.mk.injEq] at h
   obtain ⟨rfl, rfl⟩ := h
   have hm : (o', j') ∈ (ops.zipIdx).filter (fun x => x.1.dst == some d) := by rw [hf]; simp
   obtain ⟨h1, h2⟩ := List.mem_filter.1 hm
   have h3 := List.mem_zipIdx_iff_getElem?.1 h1
   refine ⟨hlt, by simpa using h3, by simpa using h2, ?_⟩
   intro k ok hk hd
   have hm2 : (ok, k) ∈ (ops.zipIdx).filter (fun x => x.1.dst == some d) := List.mem_filter.2 ⟨List.mem_zipIdx_iff_getElem?.2 (by simpa using hk), by simpa using hd⟩
   rw [hf] at hm2
   simp at hm2
   exact hm2.2
  ·simp at h
 ·simp at h
theorem laterOnly_spec {ops : List Oper} {s i : Nat} (h : laterOnly ops s i = true) {k : Nat} {ok : Oper} (hk : ops[k]? = some ok) (hd : ok.dst = some s) : i < k /\ isE ok = true := by
 unfold laterOnly at h
 have := List.all_eq_true.1 h (ok, k) (List.mem_zipIdx_iff_getElem?.2 (by simpa using hk))
 simpa [hd] using this
def takeHome (O : Nat -> Option Loc) (l : Loc) (k : Nat) : Nat -> Option Loc := fun b => if O b = some l then some (.arg k) else O b
structure Handed (P : Program) (w : World) (g : Gh) (k : Nat) (e : Env) (sig : Sig) (a : Act) (v : V) (x : Value) (g' : Gh) (e' : Env) (sig' : Sig) : Prop where
 same : g'.F = g.F /\ g'.φ = g.φ
 E : SimE w g' e' a
 B : SimB w g' sig'
 W : WF P w g'
 rel : RelV w g' (.arg k) v x
 own : ∀ b l, g'.O b = some l -> (g.O b = some l /\ l ≠ .arg k) \/ (l = .arg k /\ ∃ l', g.O b = some l' /\ ((∃ s, l' = .slot s) \/ ∃ id off, l' = .box id off))
 kept : ∀ b j, g.O b = some (.arg j) -> g'.O b = some (.arg j)
 undef : ∀ s, e'.at s = .undef ↔ e.at s = .undef
 plain : ∀ s, (e'.at s).plain = (e.at s).plain
 len : e'.length = e.length
 sigLen : sig'.length = sig.length
 sigNone : ∀ (id : Nat), sig'[id]? = some none ↔ sig[id]? = some none
 sigPlain : ∀ (id : Nat) cs, sig[id]? = some (some cs) -> ∃ cs', sig'[id]? = some (some cs') /\ cs'.map V.plain = cs.map V.plain
theorem Handed.refl (hE : SimE w g e a) (hB : SimB w g sig) (hW : WF P w g) {k : Nat} (hk : ∀ b, g.O b ≠ some (.arg k)) {v : V} {x : Value} (hr : ∀ l, RelV w g l v x) : Handed P w g k e sig a v x g e sig :=
 ⟨⟨rfl, rfl⟩, hE, hB, hW, hr _, fun b l h => .inl ⟨h, fun hl => hk b (hl ▸ h)⟩, fun _ _ h => h, fun _ => Iff.rfl, fun _ => rfl, rfl, rfl, fun _ => Iff.rfl, fun id cs h => ⟨cs, h, rfl⟩⟩
def AtHome (w : World) (g : Gh) (e : Env) (sig : Sig) (l : Loc) (sz : Nat) (es : List T) (x : Value) : Prop :=
 match l with
 | .nil => x = .slice none 0 0
 | .slot s => e.at s = .own sz es /\ s < e.length /\ ROwn w g (.slot s) sz es x
 | .box id off => ∃ (b : Nat) (cs : List V), g.φ id = some b /\ sig[id]? = some (some cs) /\ cs[off]? = some (.own sz es) /\ ROwn w g (.box id off) sz es x
 | _ => False
theorem locOf_sound (hE : SimE w g e a) (hB : SimB w g sig) {ops : List Oper} {dn : Nat -> Prop} {tl : List (Option (List Nat))} (hC : Claims P ops dn w g e tl a) {i : Nat}
  {x : Operand} (hdep : ∀ (d j : Nat) (o : Oper), x = .tmp d -> j < i -> ops[j]? = some o -> o.dst = some d -> dn j) (hbelow : ∀ (k : Nat) (ok : Oper), dn k -> ops[k]? = some ok -> isE ok = true -> k < i)
  {l : Loc} {sz : Nat} {es : List T} (h : locOf P ops base i e.at sig tl x = some (l, sz, es)) : AtHome w g e sig l sz es (a.eval x) := by
 unfold locOf at h
 split at h
 ·simp only [Option.some.injEq, Prod.mk.injEq] at h; obtain ⟨rfl, rfl, rfl⟩ := h; rfl
 ·rename_i d
  have hat := hE.at' d
  change RelV w g (.slot d) (e.at d) (a.eval (.tmp d)) at hat
  split at h
  ·rename_i hd
   simp only [Option.some.injEq, Prod.mk.injEq] at h; obtain ⟨rfl, rfl, rfl⟩ := h
   rw [hd] at hat; simp only [RelV] at hat; exact hat
  ·rename_i sz' es' hd
   simp only [Option.some.injEq, Prod.mk.injEq] at h; obtain ⟨rfl, rfl, rfl⟩ := h
   have hlt : d < e.length := by
    by_cases hl : d < e.length
    ·exact hl
    ·simp [Env.at, List.getElem?_eq_none (Nat.le_of_not_lt hl)] at hd
   rw [hd] at hat
   exact ⟨hd, hlt, by simpa only [RelV] using hat⟩
  ·rename_i ys hd
   have hnd : e.at d ≠ .undef := by rw [hd]; simp
   split at h
   ·rename_i j o hw
    obtain ⟨hji, hoj, hdst, huniq⟩ := writer_spec hw
    have hdn : dn j := hdep d j o rfl hji hoj hdst
    split at h
    ·rename_i s hop
     split at h
     ·rename_i sz' es' hs
      split at h
      ·rename_i hlater
       simp only [Option.some.injEq, Prod.mk.injEq] at h; obtain ⟨rfl, rfl, rfl⟩ := h
       have hlt : s < e.length := by
        by_cases hl : s < e.length
        ·exact hl
        ·simp [Env.at, List.getElem?_eq_none (Nat.le_of_not_lt hl)] at hs
       have heq := (hC.move j o s d hdn hoj hop hdst huniq (fun k ok hk hok hds => by
        have := laterOnly_spec hlater hok hds
        have := hbelow k ok hk hok this.2
        omega)).resolve_left hnd
       have hats := hE.at' s
       rw [hs] at hats
       refine ⟨hs, hlt, ?_⟩
       show ROwn w g (.slot s) _ _ (a.tmps.getD d undef)
       rw [heq]
       simpa only [RelV] using hats
      ·simp at h
     ·simp at h
    ·rename_i t ad hop
     split at h
     ·rename_i id off hrd hag
      split at h
      ·rename_i cs hcs
       split at h
       ·rename_i sz' es' hoff
        split at h
        ·rename_i hst
         simp only [Option.some.injEq, Prod.mk.injEq] at h; obtain ⟨rfl, rfl, rfl⟩ := h
         simp only [Bool.and_eq_true] at hst
         obtain ⟨⟨_, hst1⟩, hst2⟩ := hst
         have haddr : ∃ p, ad = .tmp p /\ ((∀ (k : Nat) (ok : Oper), ops[k]? = some ok -> ok.dst ≠ some p) \/ ∃ j', j' < j /\ ∀ (k : Nat) (ok : Oper), ops[k]? = some ok -> ok.dst = some p -> k = j') := by
          unfold stillAddr at hst1
          split at hst1
          ·rename_i p
           refine ⟨p, rfl, ?_⟩
           simp only [Bool.or_eq_true] at hst1
           rcases hst1 with h1 | h1
           ·left
            intro k ok hk
            have := List.all_eq_true.1 h1 ok (List.mem_of_getElem? hk)
            simpa using this
           ·right
            cases hw2 : writer ops p j with
            | none => simp [hw2] at h1
            | some q =>
             obtain ⟨j', o'⟩ := q
             obtain ⟨k1, _, _, k2⟩ := writer_spec hw2
             exact ⟨j', k1, k2⟩
          ·simp at hst1
         obtain ⟨b, hb, hcell⟩ := (hC.load j o t ad d id off hdn hoj hop hdst huniq haddr hrd hag (fun k ids hk => by
          have := List.all_eq_true.1 hst2 (some ids) (List.mem_of_getElem? hk)
          simpa using this)).resolve_left hnd
         obtain ⟨cs', c, el, h1, h2, h3, h4⟩ := hB.box id b hb
         rw [hcs] at h1
         simp only [Option.some.injEq] at h1
         subst h1
         refine ⟨b, cs, hb, hcs, hoff, ?_⟩
         have hc2 : c[off]? = some (a.tmps.getD d undef) := by simpa [World.cell?, h2] using hcell
         have := (h4 off _ _ hoff hc2).1
         simp only [RelV] at this
         exact this
        ·simp at h
       ·simp at h
      ·simp at h
     ·simp at h
    ·simp at h
   ·simp at h
  ·simp at h
 ·simp at h
theorem consume_sound (hE : SimE w g e a) (hB : SimB w g sig) (hW : WF P w g) {k : Nat} (hk : ∀ b, g.O b ≠ some (.arg k)) {l : Loc} {sz : Nat} {es : List T} {x : Value} (hl : l ≠ .nil) (h : AtHome w g e sig l sz es x) :
  Handed P w g k e sig a (.own sz es) x (g.owners (takeHome g.O l k)) (consume e sig l es).1 (consume e sig l es).2 := by
 have hno : ∀ b, takeHome g.O l k b ≠ some .nil := by
  intro b; unfold takeHome; split
  ·simp
  ·exact hW.noNil b
 have hex : ∀ b l', takeHome g.O l k b = some l' -> ∃ l'', g.O b = some l'' := by
  intro b l' hb; unfold takeHome at hb; split at hb
  ·exact ⟨_, by assumption⟩
  ·exact ⟨_, hb⟩
 have hW' := hW.owners hno hex
 have hshape : (∃ s, l = .slot s) \/ ∃ id off, l = .box id off := by
  cases l with
  | nil => exact absurd rfl hl
  | slot s => exact .inl ⟨s, rfl⟩
  | box id off => exact .inr ⟨id, off, rfl⟩
  | arg _ => exact h.elim
  | res => exact h.elim
 have hown : ∀ b l', (g.owners (takeHome g.O l k)).O b = some l' -> (g.O b = some l' /\ l' ≠ .arg k) \/ (l' = .arg k /\ ∃ l'', g.O b = some l'' /\ ((∃ s, l'' = .slot s) \/ ∃ id off, l'' = .box id off)) := by
  intro b l' hb
  simp only [Gh.owners, takeHome] at hb
  split at hb
  ·rename_i hbl
   simp only [Option.some.injEq] at hb
   exact .inr ⟨hb.symm, l, hbl, hshape⟩
  ·exact .inl ⟨hb, fun hl' => hk b (hl' ▸ hb)⟩
 have hrel : ∀ y, ROwn w g l sz es y -> RelV w (g.owners (takeHome g.O l k)) (.arg k) (.own sz es) y := by
  intro y hy
  have h0 : RelV w g l (.own sz es) y := by simpa only [RelV] using hy
  exact h0.owners hW (fun b hb => by unfold takeHome; rw [if_pos hb])
 clear hshape
 match l, hl, h, hno, hex, hW', hown, hrel with
 | .nil, hl, _, _, _, _, _, _ => exact absurd rfl hl
 | .arg _, _, h, _, _, _, _, _ => exact h.elim
 | .res, _, h, _, _, _, _, _ => exact h.elim
 | .slot s, hl, h, hno, hex, hW', hown, hrel =>
  obtain ⟨h1, h2, h3⟩ := h
  refine ⟨⟨rfl, rfl⟩, ⟨by simp [consume, hE.size], fun s' hs' => ?_⟩, ?_, hW', hrel x h3, hown, fun b j hb => by show takeHome g.O (.slot s) k b = _; unfold takeHome; rw [if_neg (by rw [hb]; simp)]; exact hb, ?_, ?_, by simp [consume], rfl, fun _ => Iff.rfl, fun id cs h => ⟨cs, h, rfl⟩⟩
  ·simp only [consume] at hs' ⊢
   rw [at_set]
   split
   ·rename_i hs
    obtain ⟨rfl, _⟩ := hs
    have hat := hE.at' s
    rw [h1] at hat
    have := (hat.plain (l' := .nil))
    simp only [V.plain, RelV] at this
    simp only [RelV]
    exact this
   ·rename_i hs
    refine (hE.at_ s' (by simpa using hs')).owners hW (fun b hb => ?_)
    unfold takeHome
    rw [if_neg]
    ·exact hb
    ·rw [hb]; simp; intro hss; exact hs ⟨hss.symm, h2⟩
  ·exact hB.owners hW (fun b id off hb => by unfold takeHome; rw [if_neg (by rw [hb]; simp)]; exact hb)
  ·intro s'
   simp only [consume]
   rw [at_set]
   split
   ·rename_i hs; obtain ⟨rfl, _⟩ := hs; rw [h1]; simp
   ·exact Iff.rfl
  ·intro s'
   simp only [consume]
   rw [at_set]
   split
   ·rename_i hs; obtain ⟨rfl, _⟩ := hs; rw [h1]; rfl
   ·rfl
 | .box id off, hl, h, hno, hex, hW', hown, hrel =>
  obtain ⟨b, cs, h1, h2, h3, h4⟩ := h
  have hidlt : id < sig.length := (List.getElem?_eq_some_iff.1 h2).1
  have hget : sig.getD id none = some cs := by simp [h2]
  have hofflt : off < cs.length := (List.getElem?_eq_some_iff.1 h3).1
  refine ⟨⟨rfl, rfl⟩, hE.owners hW (fun b s hb => by unfold takeHome; rw [if_neg (by rw [hb]; simp)]; exact hb), ⟨?_, hB.inj, hB.apart⟩, hW', hrel x h4, hown, fun b j hb => by show takeHome g.O (.box id off) k b = _; unfold takeHome; rw [if_neg (by rw [hb]; simp)]; exact hb, fun _ => Iff.rfl, fun _ => rfl, rfl, by simp [consume], ?_, ?_⟩
  ·intro id' b' hb'
   obtain ⟨cs', c, el, k1, k2, k3, k4⟩ := hB.box id' b' hb'
   by_cases hid : id = id'
   ·subst hid
    rw [h2] at k1
    simp only [Option.some.injEq] at k1
    subst k1
    refine ⟨cs.set off (.t (.list es)), c, el, by simp only [consume]; rw [hget]; simp [hidlt], k2, by simpa using k3, ?_⟩
    intro j v y hv hy
    rw [List.getElem?_set] at hv
    split at hv
    ·rename_i hj
     subst hj
     simp only [hofflt, if_true, Option.some.injEq] at hv
     subst hv
     have := k4 off _ y h3 hy
     have hp := this.1.plain (l' := .nil)
     simp only [V.plain, RelV] at hp
     exact ⟨by simp only [RelV]; exact hp, this.2⟩
    ·rename_i hj
     have := k4 j v y hv hy
     exact ⟨this.1.owners hW (fun b hb => by unfold takeHome; rw [if_neg (by rw [hb]; simp; omega)]; exact hb), this.2⟩
   ·refine ⟨cs', c, el, ?_, k2, k3, ?_⟩
    ·simp only [consume]
     rw [List.getElem?_set_ne hid]; exact k1
    ·intro j v y hv hy
     have := k4 j v y hv hy
     exact ⟨this.1.owners hW (fun b hb => by unfold takeHome; rw [if_neg (by rw [hb]; simp; omega)]; exact hb), this.2⟩
  ·intro id'
   simp only [consume]
   rw [hget]
   by_cases hid : id = id'
   ·subst hid; rw [List.getElem?_set_self hidlt, h2]; simp
   ·rw [List.getElem?_set_ne hid]
  ·intro id' cs' h'
   simp only [consume]
   rw [hget]
   by_cases hid : id = id'
   ·subst hid
    rw [h2] at h'
    simp only [Option.some.injEq] at h'
    subst h'
    refine ⟨cs.set off (.t (.list es)), by simp [hidlt], ?_⟩
    apply List.ext_getElem?
    intro j
    simp only [List.getElem?_map, List.getElem?_set]
    split
    ·rename_i hj; subst hj; rw [h3]; simp [hofflt, V.plain]
    ·rfl
   ·exact ⟨cs', by rw [List.getElem?_set_ne hid]; exact h', rfl⟩
theorem handOn_sound (hE : SimE w g e a) (hB : SimB w g sig) (hW : WF P w g) {k : Nat} (hk : ∀ b, g.O b ≠ some (.arg k)) {ops : List Oper} {dn : Nat -> Prop} {tl : List (Option (List Nat))} (hC : Claims P ops dn w g e tl a) {i : Nat}
  {x : Operand} (hdep : ∀ (d j : Nat) (o : Oper), x = .tmp d -> j < i -> ops[j]? = some o -> o.dst = some d -> dn j) (hbelow : ∀ (k : Nat) (ok : Oper), dn k -> ops[k]? = some ok -> isE ok = true -> k < i) {all : Bool} {v : V} {e' : Env} {sig' : Sig}
  (h : handOn P all ops base i e sig tl x = some (v, e', sig')) : ∃ g', Handed P w g k e sig a v (a.eval x) g' e' sig' := by
 unfold handOn at h
 have hplain : ∀ u, rd e x = some u -> Handed P w g k e sig a u (a.eval x) g e sig := fun u hu => .refl hE hB hW hk (fun l => (rd_rel hE hu l).1)
 have hp2 : (rd e x).map (·, e, sig) = some (v, e', sig') -> ∃ g', Handed P w g k e sig a v (a.eval x) g' e' sig' := by
  intro h
  cases hr : rd e x with
  | none => simp [hr] at h
  | some u => simp [hr] at h; obtain ⟨rfl, rfl, rfl⟩ := h; exact ⟨g, hplain u hr⟩
 split at h
 ·rename_i sz es hl
  simp only [Option.some.injEq, Prod.mk.injEq] at h
  obtain ⟨rfl, rfl, rfl⟩ := h
  have := locOf_sound hE hB hC hdep hbelow hl
  refine ⟨g, .refl hE hB hW hk (fun l => ?_)⟩
  simp only [RelV]
  exact this
 ·rename_i l sz es hne hl
  split at h
  ·simp only [Option.some.injEq, Prod.mk.injEq] at h
   obtain ⟨rfl, rfl, rfl⟩ := h
   exact ⟨_, consume_sound hE hB hW hk (fun hn => hne hn) (locOf_sound hE hB hC hdep hbelow hl)⟩
  ·exact hp2 h
 ·exact hp2 h
end
end Go.Eng
