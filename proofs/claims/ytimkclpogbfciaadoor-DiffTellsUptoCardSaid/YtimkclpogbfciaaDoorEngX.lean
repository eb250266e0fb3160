/- The engine, twelfth part: appends. -/
import Derived.Test.YtimkclpogbfciaaDoorEngV
set_option linter.unusedVariables false
set_option linter.unusedSimpArgs false
namespace Go.Eng
open Go.RowKit
section
variable {P : Program} {w w' : World} {g g' : Gh} {e e' : Env} {a a' : Act} {sig sig' : Sig} {ops : List Oper} {base : Nat} {dn : Nat -> Prop} {r r' : R}
theorem RAt.values {F : Nat -> Option Nat} {b o : Nat} {cs : List T} (h : RAt w F b o cs) : ∃ vs : List Value, vs.length = cs.length /\ (∀ (j : Nat) (u : Value), vs[j]? = some u -> w.cell? ⟨b, o + j, none⟩ = some u) ∧
  (∀ (j : Nat) (x : T), cs[j]? = some x -> ∃ u, vs[j]? = some u /\ RT w F x u) /\ ∀ u ∈ vs, u.oneCell' = true := by
 have key : ∀ (cs : List T) (o : Nat), RAt w F b o cs -> ∃ vs : List Value, vs.length = cs.length /\ (∀ (j : Nat) (u : Value), vs[j]? = some u -> w.cell? ⟨b, o + j, none⟩ = some u) ∧
   (∀ (j : Nat) (x : T), cs[j]? = some x -> ∃ u, vs[j]? = some u /\ RT w F x u) /\ ∀ u ∈ vs, u.oneCell' = true := by
  intro cs
  induction cs with
  | nil => intro o _; exact ⟨[], rfl, by simp, by simp, by simp⟩
  | cons x cs ih =>
   intro o h
   obtain ⟨u, h1, h2⟩ := h 0 x (by simp)
   obtain ⟨vs, k1, k2, k3, k4⟩ := ih (o + 1) (fun k y hk => by
    obtain ⟨z, hz, hr⟩ := h (k + 1) y (by simpa using hk)
    exact ⟨z, by rw [<- hz]; congr 2; omega, hr⟩)
   refine ⟨u :: vs, by simp [k1], ?_, ?_, ?_⟩
   ·intro j y hj
    cases j with
    | zero => simp at hj; subst hj; exact h1
    | succ j => rw [<- k2 j y (by simpa using hj)]; congr 2; omega
   ·intro j y hj
    cases j with
    | zero => simp at hj; subst hj; exact ⟨u, by simp, h2⟩
    | succ j => simpa using k3 j y (by simpa using hj)
   ·intro y hy
    rcases List.mem_cons.1 hy with rfl | hy
    ·exact h2.oneCell
    ·exact k4 y hy
 exact key cs o h
structure Brought (P : Program) (w : World) (g : Gh) (k : Nat) (e : Env) (sig : Sig) (a : Act) (v : V) (x : Value) (w1 : World) (g1 : Gh) (sig1 : Sig) : Prop where
 E : SimE w1 g1 e a
 B : SimB w1 g1 sig1
 W : WF P w1 g1
 rel : RelV w1 g1 (.arg k) v x
 ext : Ext w g w1 g1
 arg : ∀ b j, g1.O b = some (.arg j) -> j = k
 res : ∀ b, g1.O b ≠ some .res
 φ : g1.φ = g.φ
theorem Brought.same {k : Nat} {v : V} {x : Value} (hE : SimE w g e a) (hB : SimB w g sig) (hW : WF P w g) (hA : ∀ b j, g.O b = some (.arg j) -> j = k) (hN : ∀ b, g.O b ≠ some .res) (hr : RelV w g (.arg k) v x) : Brought P w g k e sig a v x w g sig :=
 ⟨hE, hB, hW, hr, Ext.refl _ _, hA, hN, rfl⟩
theorem Brought.row (hE : SimE w g e a) (hB : SimB w g sig) (hW : WF P w g) {k : Nat} (hA : ∀ b j, g.O b = some (.arg j) -> j = k) (hN : ∀ b, g.O b ≠ some .res) {nb N cap n : Nat} {el : TypeId} {cur : Array Value} {es : List T} {w1 : World}
  (hos : w1.os = w.os) (htape : w1.tape = w.tape) (hout : w1.output = w.output) (hsize : w.heap.size <= w1.heap.size) (hblock : ∀ b, b < w.heap.size -> w1.heap[b]? = w.heap[b]?)
  (hnb : w.heap.size <= nb) (hcell : w1.heap[nb]? = some (.cells cur el (0, 0))) (hcur : cur.size = cap * n) (hN' : es.length <= cap) (hp : 0 < n) (hsz : ∀ y ∈ es, y.cells.length = n)
  (hval : ∀ (j : Nat) (x : T), (es.flatMap T.cells)[j]? = some x -> ∃ u, cur[j]? = some u /\ RT w g.F x u) :
  ∃ g1, Brought P w g k e sig a (.own n es) (.slice (some ⟨nb, 0, none⟩) es.length cap) w1 g1 sig := by
 have hnblt : nb < w1.heap.size := (Array.getElem?_eq_some_iff.1 hcell).1
 let g1 : Gh := { F := fun b => if b = nb then some (es.length * n) else g.F b, φ := g.φ, O := fun b => if b = nb then some (.arg k) else g.O b }
 have hkeep : Keeps w g.F w1 g1.F := by
  intro b lim hb
  have hlt := hW.lt b lim hb
  refine ⟨lim, by show (if b = nb then _ else g.F b) = _; rw [if_neg (by omega)]; exact hb, Nat.le_refl _, fun o' _ => by simp only [World.cell?, hblock b hlt]⟩
 have hl : Later w g w1 g1 := ⟨hkeep, fun _ _ h => h⟩
 have hroom : ∀ b l, g.O b = some l -> b < w.heap.size /\ g1.O b = some l /\ g1.F b = g.F b /\ w1.heap[b]? = w.heap[b]? := by
  intro b l hb
  have hF := hW.own b l hb
  cases hFb : g.F b with
  | none => simp [hFb] at hF
  | some lim =>
   have hlt := hW.lt b lim hFb
   refine ⟨hlt, ?_, ?_, hblock b hlt⟩
   ·show (if b = nb then _ else g.O b) = _; rw [if_neg (by omega)]; exact hb
   ·show (if b = nb then _ else g.F b) = _; rw [if_neg (by omega)]; exact hFb
 refine ⟨g1, ⟨hE.size, fun s hs => RelV.later hl hW.noNil (fun b hb => (hroom b _ hb).2) (hE.at_ s hs)⟩, ⟨fun id b hb => ?_, hB.inj, fun id b hb => ?_⟩, ⟨fun b lim hb => ?_, fun id b hb => ?_, fun b hb => ?_, fun b l hb => ?_, hW.globs hsize (fun b hb => hblock b (hW.glob b hb).1) (fun b hb => by show (if b = nb then _ else g.O b) = none; rw [if_neg (by have := (hW.glob b hb).1; omega)]; exact (hW.glob b hb).2.2.1) (fun b hb => (hW.glob b hb).2.2.2)⟩, ?_, ⟨hsize, hkeep, fun b hb _ _ => ⟨hblock b hb, ?_⟩, hos, htape, hout, fun _ _ h => h, fun id b hb => .inr ⟨id, hb⟩, fun b l hb => ?_⟩, fun b j hb => ?_, fun b hb => ?_, rfl⟩
 ·obtain ⟨cs, c, el', h1, h2, h3, h4⟩ := hB.box id b hb
  exact ⟨cs, c, el', h1, by rw [hblock b (hW.ltφ id b hb)]; exact h2, h3, fun j v x hv hx => ⟨RelV.later hl hW.noNil (fun b hb => (hroom b _ hb).2) (h4 j v x hv hx).1, (h4 j v x hv hx).2⟩⟩
 ·have := hW.ltφ id b hb
  show (if b = nb then _ else g.F b) = none
  rw [if_neg (by omega)]; exact hB.apart id b hb
 ·change (if b = nb then _ else g.F b) = some lim at hb
  split at hb
  ·rename_i h; rw [h]; exact hnblt
  ·have := hW.lt b lim hb; omega
 ·have := hW.ltφ id b hb; omega
 ·change (if b = nb then _ else g.O b) = _ at hb
  split at hb
  ·cases hb
  ·exact hW.noNil b hb
 ·change (if b = nb then _ else g.O b) = _ at hb
  show (if b = nb then _ else g.F b).isSome = true
  split at hb
  ·rename_i h; rw [if_pos h]; rfl
  ·rename_i h; rw [if_neg h]; exact hW.own b l hb
 ·simp only [RelV]
  right
  refine ⟨nb, 0, cap, es.length * n, rfl, hN', ⟨?_, by omega, hp, hsz, ?_⟩, .inr ⟨?_, by omega, cur, el, hcell, by omega⟩⟩
  ·show (if nb = nb then _ else g.F nb) = _; simp
  ·intro j x hj
   obtain ⟨u, hu, hr⟩ := hval j x hj
   exact ⟨u, by simp only [World.cell?, hcell]; simpa using hu, hr.keep hkeep⟩
  ·show (if nb = nb then _ else g.O nb) = _; simp
 ·show (if b = nb then _ else g.F b) = _
  rw [if_neg (by omega)]
 ·change (if b = nb then _ else g.O b) = _ at hb
  split at hb
  ·left; omega
  ·exact .inr ⟨l, hb⟩
 ·change (if b = nb then _ else g.O b) = _ at hb
  split at hb
  ·simpa using hb.symm
  ·exact hA b j hb
 ·change (if b = nb then _ else g.O b) = _ at hb
  split at hb
  ·cases hb
  ·exact hN b hb
theorem bytesOk_spec {el : TypeId} {N : Nat} (h : bytesOk P el N = true) : ∃ i, P.info? el = some i /\ i.bytes <= 1024 /\ N <= 1073741824 := by
 unfold bytesOk tyBytes at h
 cases hi : P.info? el with
 | none => simp [hi] at h
 | some i => simp [hi] at h; exact ⟨i, rfl, h.1, h.2⟩
theorem flat_append (xs ys : List T) : (xs ++ ys).flatMap T.cells = xs.flatMap T.cells ++ ys.flatMap T.cells := by simp
set_option maxHeartbeats 1000000 in
theorem append_run (hE : SimE w g e a) (hB : SimB w g sig) (hW : WF P w g) (hA : ∀ b j, g.O b = some (.arg j) -> j = 0) (hN : ∀ b, g.O b ≠ some .res) {t ty el : TypeId} (ht : tyElem P t = some el) {n : Nat} (hn : tySize P el = some n) (hp : 0 < n)
  {es ys : List T} (hb : bytesOk P el (es.length + ys.length) = true) (hys : ∀ y ∈ ys, y.cells.length = n) (hz : (tyZero P el).any (fun z => z.cells.size == n) = true) {xv yv : Value} (hy : RT w g.F (.list ys) yv)
  (hx : (es = [] /\ xv = .slice none 0 0) \/ RelV w g (.arg 0) (.own n es) xv) :
  ∃ u w1 g1, (Builtin.append_ #[t, t] ty #[xv, yv]).run P w = .ok u w1 /\ Brought P w g 0 e sig a (.own n (es ++ ys)) u w1 g1 sig /\ (es = [] -> xv = .slice none 0 0 -> ys = [] -> u = .slice none 0 0) /\ (∀ id b, g.φ id = some b -> w1.heap[b]? = w.heap[b]?) := by
 obtain ⟨i, hi, hby, hlen⟩ := bytesOk_spec hb
 have hu := tyElem_spec ht
 have hsz : i.size = n := by simpa [tySize, hi] using hn
 cases hz' : tyZero P el with
 | none => simp [hz'] at hz
 | some z =>
 have hiz : i.zero = some z := by simpa [tyZero, hi] using hz'
 have hzn : z.cells.size = n := by simpa [hz'] using hz
 have hbytes : (es.length + ys.length) * i.bytes <= 140737488355328 := by
  calc (es.length + ys.length) * i.bytes <= 1073741824 * 1024 := Nat.mul_le_mul hlen hby
   _ <= 140737488355328 := by decide
 have hrel : RelV w g (.arg 0) (.own n es) xv := by
  rcases hx with ⟨rfl, rfl⟩ | h
  ·simp only [RelV]; exact .inl ⟨rfl, .inl rfl⟩
  ·exact h
 have hrel' := hrel
 simp only [RelV] at hrel'
 by_cases hy0 : ys = []
 ·subst hy0
  refine ⟨xv, w, g, ?_, ?_, fun _ h _ => h, fun _ _ _ => rfl⟩
  ·have hyl : ∃ base cap, yv = .slice base 0 cap := by
    rcases hy.toList with ⟨_, rfl | ⟨a0, rfl⟩⟩ | ⟨b, o, cap, sz, lim, rfl, _, _⟩
    ·exact ⟨_, _, rfl⟩
    ·exact ⟨_, _, rfl⟩
    ·exact ⟨_, _, rfl⟩
   obtain ⟨base, cap, rfl⟩ := hyl
   have hfirst : ∀ w' : World, (Builtin.firstCells i.size 0 (.slice base 0 cap)).run P w' = .ok #[] w' := by
    intro w'
    cases base with
    | none => simp [Builtin.firstCells]
    | some b => simp [Builtin.firstCells, loadCells, loadCellsFrom]
   have hxl : ∃ base' cap', xv = .slice base' es.length cap' /\ es.length <= cap' := by
    rcases hrel' with ⟨rfl, rfl | ⟨a0, rfl⟩⟩ | ⟨b, o, cap', lim, rfl, h1, _⟩
    ·exact ⟨_, _, rfl, Nat.le_refl _⟩
    ·exact ⟨_, _, rfl, Nat.le_refl _⟩
    ·exact ⟨_, _, rfl, h1⟩
   obtain ⟨base', cap', rfl, hc⟩ := hxl
   cases base' with
   | none => simp [Builtin.append_, run_underlying hu, sizeOf, typeInfo, hi, Builtin.lenOf, hc, hfirst]
   | some b => simp [Builtin.append_, run_underlying hu, sizeOf, typeInfo, hi, Builtin.lenOf, hc, hfirst, storeCells]
  ·simpa using Brought.same hE hB hW hA hN hrel
 ·
  have hypos : 0 < ys.length := List.length_pos_iff.2 hy0
  rcases hy.toList with ⟨h, _⟩ | ⟨b2, o2, cap2, sz2, lim2, rfl, hc2, hR2⟩
  ·exact absurd h hy0
  ·have hsz2 : sz2 = n := by
    obtain ⟨y, hym⟩ := List.exists_mem_of_ne_nil _ hy0
    rw [<- hR2.size y hym]; exact hys y hym
   subst hsz2
   obtain ⟨news, n1, n2, n3, n4⟩ := hR2.at_.values
   have hnl : news.length = ys.length * i.size := by rw [n1, length_flat hys, hsz]
   have hnews : ∀ (j : Nat) (u : Value), news[j]? = some u -> w.cell? ((⟨b2, o2, none⟩ : Addr).add j) = some u := by
    intro j u hj; rw [Addr.add_none]; exact n2 j u hj
   have hall : ∀ y ∈ es ++ ys, es = [] \/ True := fun _ _ => .inr trivial
   rcases hrel' with ⟨rfl, hbare⟩ | ⟨b, o, cap, lim, rfl, hcap, hR, hown⟩
   ·
    have hrun : (Builtin.append_ #[t, t] ty #[xv, .slice (some ⟨b2, o2, none⟩) ys.length cap2]).run P w = .ok (.slice (some ⟨w.heap.size, 0, none⟩) ys.length (grownCap w ys.length 0 el)) (w.drew.alloc (.cells (news.toArray ++ Builtin.zeroCells z.cells (grownCap w ys.length 0 el - ys.length)) el)) := by
     rcases hbare with rfl | ⟨a0, rfl⟩
     ·exact run_append_nil (P := P) w t ty el i z hu hi hiz ⟨b2, o2, none⟩ ys.length cap2 news hnl hnews hypos (by simp at hlen; omega) (by simp at hbytes; omega)
     ·have := run_append_grow (P := P) w t ty el i z hu hi hiz a0 0 0 [] (by simp) (by simp) ⟨b2, o2, none⟩ ys.length cap2 news hnl hnews (by omega) (by simp at hlen; omega) (by rw [Nat.zero_add, nextslicecap_zero hypos]; simp at hbytes; omega)
      simpa using this
    have hge := grownCap_ge w ys.length 0 el
    obtain ⟨g1, hg1⟩ := Brought.row (k := 0) (nb := w.heap.size) (cap := grownCap w ys.length 0 el) (n := sz2) (el := el) (es := ys) (N := 0) (cur := news.toArray ++ Builtin.zeroCells z.cells (grownCap w ys.length 0 el - ys.length))
     (w1 := w.drew.alloc (.cells (news.toArray ++ Builtin.zeroCells z.cells (grownCap w ys.length 0 el - ys.length)) el (0, 0))) hE hB hW hA hN rfl rfl rfl (by simp) (fun b hb => heap_alloc_old w.drew _ b hb) (Nat.le_refl _)
     (heap_alloc_new w.drew _) (by
      simp only [Array.size_append, List.size_toArray, size_zeroCells, hzn, hnl, hsz, <- Nat.add_mul]
      congr 1; omega) hge hp hys (fun j x hj => by
      obtain ⟨u, hu', hr⟩ := n3 j x hj
      refine ⟨u, ?_, hr⟩
      have hlt := (List.getElem?_eq_some_iff.1 hu').1
      rw [Array.getElem?_append_left (by simpa using hlt)]
      simpa using hu')
    exact ⟨_, _, g1, hrun, by simpa using hg1, fun _ _ h => absurd h hy0, fun id b hb => heap_alloc_old w.drew _ b (hW.ltφ id b hb)⟩
   ·obtain ⟨olds, o1, o2', o3, o4⟩ := hR.at_.values
    have hol : olds.length = es.length * sz2 := by rw [o1, length_flat hR.size]
    have hallsz : ∀ y ∈ es ++ ys, y.cells.length = sz2 := by
     intro y hy
     rcases List.mem_append.1 hy with h | h
     ·exact hR.size y h
     ·exact hys y h
    have hvals : ∀ (j : Nat) (x : T), ((es ++ ys).flatMap T.cells)[j]? = some x -> ∃ u, (olds ++ news)[j]? = some u /\ RT w g.F x u := by
     intro j x hj
     rw [flat_append] at hj
     have hfl : (es.flatMap T.cells).length = olds.length := o1.symm
     by_cases hjl : j < olds.length
     ·rw [List.getElem?_append_left (by omega)] at hj
      obtain ⟨u, hu', hr⟩ := o3 j x hj
      exact ⟨u, by rw [List.getElem?_append_left hjl]; exact hu', hr⟩
     ·rw [List.getElem?_append_right (by omega), hfl] at hj
      obtain ⟨u, hu', hr⟩ := n3 _ x hj
      exact ⟨u, by rw [List.getElem?_append_right (by omega)]; exact hu', hr⟩
    by_cases hroom : es.length + ys.length <= cap
    ·
     rcases hown with hfull | ⟨hO, hlim, c, e0, hblk, hcs⟩
     ·omega
     ·have hcell : ∀ k, w.cell? ⟨b, k, none⟩ = c[k]? := by intro k; simp [World.cell?, hblk]
      have hspare : ∀ j, j < news.length -> o + es.length * i.size + j < c.size := by
       intro j hj
       rw [hnl, hsz] at hj
       rw [hsz]
       have : (es.length + ys.length) * sz2 <= cap * sz2 := Nat.mul_le_mul_right _ hroom
       rw [Nat.add_mul] at this
       omega
      have hrun := run_append_room_cells (P := P) w t ty el i hu hi b o es.length cap ⟨b2, o2, none⟩ ys.length cap2 news hnl hnews n4 hroom
       (fun j hj => by rw [hcell]; simp [hspare j hj]) (fun j hj => by simp [World.frozen?, hblk])
      rw [hsz] at hrun
      let w1 := w.setCells b (o + es.length * sz2) news
      let g1 : Gh := { g with F := fun k => if k = b then some (lim + ys.length * sz2) else g.F k }
      have hblt : b < w.heap.size := (Array.getElem?_eq_some_iff.1 hblk).1
      have hsetgen : ∀ (vs : List Value) (off : Nat) (w : World) (c : Array Value), w.heap[b]? = some (.cells c e0 (0, 0)) -> (∃ c', (w.setCells b off vs).heap[b]? = some (.cells c' e0 (0, 0)) /\ c'.size = c.size) /\ (w.setCells b off vs).heap.size = w.heap.size ∧
        (∀ k, k ≠ b -> (w.setCells b off vs).heap[k]? = w.heap[k]?) /\ (w.setCells b off vs).os = w.os /\ (w.setCells b off vs).tape = w.tape /\ (w.setCells b off vs).output = w.output := by
       intro vs
       induction vs with
       | nil => intro off w c h; exact ⟨⟨c, h, rfl⟩, rfl, fun _ _ => rfl, rfl, rfl, rfl⟩
       | cons v vs ih =>
        intro off w c h
        have h' : (w.setCell ⟨b, off, none⟩ v).heap[b]? = some (.cells (c.setIfInBounds off v) e0 (0, 0)) := by
         simp only [World.setCell, Array.getElem?_modify, if_true, h]
         simp
        obtain ⟨⟨c', k1, k2⟩, k3, k4, k5, k6, k7⟩ := ih (off + 1) _ _ h'
        refine ⟨⟨c', k1, by simpa using k2⟩, by rw [World.setCells, k3]; simp, fun k hk => ?_, k5, k6, k7⟩
        rw [World.setCells, k4 k hk]
        exact Below.heap_setCell _ _ _ _ (by simpa using hk)
      obtain ⟨⟨c', hblk', hcs'⟩, hsize, hne, hos, htape, hout⟩ := hsetgen news (o + es.length * sz2) w c hblk
      have hlow : ∀ k, k < lim -> w1.cell? ⟨b, k, none⟩ = w.cell? ⟨b, k, none⟩ := by
       intro k hk
       exact World.cell?_setCells_out b news _ w ⟨b, k, none⟩ (fun _ _ => .inl (by simp; omega))
      have hkeep : Keeps w g.F w1 g1.F := by
       intro k lim' hk
       by_cases hkb : k = b
       ·subst hkb
        rw [hR.isLim] at hk
        simp only [Option.some.injEq] at hk
        subst hk
        exact ⟨lim + ys.length * sz2, by show (if k = k then _ else g.F k) = _; simp, by omega, fun o' ho' => hlow o' ho'⟩
       ·exact ⟨lim', by show (if k = b then _ else g.F k) = _; rw [if_neg hkb]; exact hk, Nat.le_refl _, fun o' _ => by simp only [World.cell?]; rw [hne k hkb]⟩
      have hl : Later w g w1 g1 := ⟨hkeep, fun _ _ h => h⟩
      have hrm : ∀ k l, g.O k = some l -> l ≠ .arg 0 -> g1.O k = some l /\ g1.F k = g.F k /\ w1.heap[k]? = w.heap[k]? := by
       intro k l hk hne'
       have hkb : k ≠ b := by intro h; subst h; rw [hO] at hk; simp at hk; exact hne' hk.symm
       exact ⟨hk, by show (if k = b then _ else g.F k) = _; rw [if_neg hkb], hne k hkb⟩
      refine ⟨.slice (some ⟨b, o, none⟩) (es.length + ys.length) cap, w1, g1, hrun, ⟨⟨hE.size, fun s hs => RelV.later hl hW.noNil (fun k hk => hrm k _ hk (by simp)) (hE.at_ s hs)⟩, ⟨fun id k hk => ?_, hB.inj, fun id k hk => ?_⟩, ⟨fun k lim' hk => ?_, fun id k hk => ?_, hW.noNil, fun k l hk => ?_, hW.globs (by show _ <= (w.setCells _ _ _).heap.size; rw [hsize]; exact Nat.le_refl _) (fun k hk => hne k (fun h => by have := (hW.glob k hk).2.2.1; rw [h, hO] at this; cases this)) (fun k hk => (hW.glob k hk).2.2.1) (fun k hk => (hW.glob k hk).2.2.2)⟩, ?_, ⟨by show _ <= (w.setCells _ _ _).heap.size; rw [hsize]; exact Nat.le_refl _, hkeep, fun k hk h1 h2 => ?_, hos, htape, hout, fun _ _ h => h, fun id k hk => .inr ⟨id, hk⟩, fun k l hk => .inr ⟨l, hk⟩⟩, hA, hN, rfl⟩, fun _ h => by simp at h, fun id k hk => hne k (by intro h; subst h; have := hB.apart id k hk; rw [hR.isLim] at this; cases this)⟩
      ·obtain ⟨cs, c2, el2, m1, m2, m3, m4⟩ := hB.box id k hk
       have hkb : k ≠ b := by intro h; subst h; have := hB.apart id k hk; rw [hR.isLim] at this; cases this
       exact ⟨cs, c2, el2, m1, by rw [hne k hkb]; exact m2, m3, fun j v x hv hx => ⟨RelV.later hl hW.noNil (fun q hq => hrm q _ hq (by simp)) (m4 j v x hv hx).1, (m4 j v x hv hx).2⟩⟩
      ·have hkb : k ≠ b := by intro h; subst h; have := hB.apart id k hk; rw [hR.isLim] at this; cases this
       show (if k = b then _ else g.F k) = none
       rw [if_neg hkb]; exact hB.apart id k hk
      ·show k < (w.setCells _ _ _).heap.size
       rw [hsize]
       change (if k = b then _ else g.F k) = _ at hk
       split at hk
       ·rename_i h; rw [h]; exact hblt
       ·exact hW.lt k lim' hk
      ·show k < (w.setCells _ _ _).heap.size
       rw [hsize]; exact hW.ltφ id k hk
      ·show (if k = b then _ else g.F k).isSome = true
       split
       ·rfl
       ·exact hW.own k l hk
      ·simp only [RelV]
       right
       refine ⟨b, o, cap, lim + ys.length * sz2, by simp, by simpa using hroom, ⟨by show (if b = b then _ else g.F b) = _; simp, by simp only [List.length_append, Nat.add_mul]; omega, hp, hallsz, ?_⟩, .inr ⟨hO, by simp only [List.length_append, Nat.add_mul]; omega, c', e0, hblk', by omega⟩⟩
       intro j x hj
       obtain ⟨u, hu', hr⟩ := hvals j x hj
       refine ⟨u, ?_, hr.keep hkeep⟩
       by_cases hjl : j < olds.length
       ·rw [List.getElem?_append_left hjl] at hu'
        rw [hlow _ (by omega)]
        exact o2' j u hu'
       ·rw [List.getElem?_append_right (by omega)] at hu'
        have hjn := (List.getElem?_eq_some_iff.1 hu').1
        have hgen : ∀ (vs : List Value) (off : Nat) (w : World) (c : Array Value) (q : Nat) (u : Value), w.heap[b]? = some (.cells c e0 (0, 0)) -> off + vs.length <= c.size -> vs[q]? = some u -> (w.setCells b off vs).cell? ⟨b, off + q, none⟩ = some u := by
         intro vs
         induction vs with
         | nil => intro off w c q u _ _ hq; simp at hq
         | cons v vs ih =>
          intro off w c q u h hle hq
          have h' : (w.setCell ⟨b, off, none⟩ v).heap[b]? = some (.cells (c.setIfInBounds off v) e0 (0, 0)) := by
           simp only [World.setCell, Array.getElem?_modify, if_true, h]
           simp
          simp only [List.length_cons] at hle
          cases q with
          | zero =>
           simp at hq; subst hq
           rw [World.setCells, World.cell?_setCells_out b vs (off + 1) _ ⟨b, off + 0, none⟩ (fun _ _ => .inl (by simp))]
           simp only [World.cell?, h']
           have hoff : off < c.size := by omega
           simp [hoff]
          | succ q =>
           rw [World.setCells, show off + (q + 1) = off + 1 + q by omega]
           exact ih (off + 1) _ _ q u h' (by simp; omega) (by simpa using hq)
        have := hgen news (o + es.length * sz2) w c (j - olds.length) u hblk (by
         have h9 := hspare (news.length - 1) (by omega)
         rw [hsz] at h9
         omega) hu'
        rw [<- this]
        show World.cell? (w.setCells _ _ _) _ = _
        congr 2; omega
      ·have hkb : k ≠ b := by intro h; subst h; rw [hO] at h2; cases h2
       exact ⟨hne k hkb, by show (if k = b then _ else g.F k) = _; rw [if_neg hkb]⟩
    ·
     obtain ⟨v', w1, hrun, hrow, hgrown⟩ := run_append_arg_grows (P := P) (ty := ty) w t el i z sz2 i.bytes hu hi hiz hsz rfl hzn hp ⟨b, o, none⟩ es.length cap olds hol (fun j u hj => by rw [Addr.add_none]; exact o2' j u hj)
      ⟨b2, o2, none⟩ ys.length cap2 news (by rw [hnl, hsz]) hnews (by omega) (by unfold maxLen; omega) hbytes
     obtain ⟨hrl, hrow⟩ := hrow
     rcases hrow with ⟨_, h0⟩ | ⟨nb, cap', cur, rfl, hnb, hblk, hle, _, hcs, htake⟩
     ·omega
     ·obtain ⟨g1, hg1⟩ := Brought.row (k := 0) (nb := nb) (cap := cap') (n := sz2) (el := el) (es := es ++ ys) (N := 0) (cur := cur) (w1 := w1) hE hB hW hA hN hgrown.os hgrown.tape hgrown.output hgrown.size (fun b hb => hgrown.block b hb (by simp)) hnb hblk hcs (by simpa using hle) hp hallsz (fun j x hj => by
       obtain ⟨u, hu', hr⟩ := hvals j x hj
       refine ⟨u, ?_, hr⟩
       rw [<- htake] at hu'
       rw [List.getElem?_take] at hu'
       split at hu'
       ·simpa using hu'
       ·cases hu')
      refine ⟨_, w1, g1, hrun, ?_, fun _ h => by simp at h, fun id b hb => hgrown.block b (hW.ltφ id b hb) (by simp)⟩
      simpa using hg1
end
end Go.Eng
