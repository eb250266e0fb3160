/- The engine, second part: how its values stand to the machine's memory. -/
import Derived.Test.YtimkclpogbfciaaDoorEngDefs
import Derived.Laws.IdiomCopy
import Derived.ArgAppend
import Derived.Laws.Slices
set_option linter.unusedVariables false
set_option linter.unusedSimpArgs false
namespace Go.Eng
open Go.RowKit
inductive RT (w : World) (F : Nat -> Option Nat) : T -> Value -> Prop
 | sc (v : Value) : flat v = true -> RT w F (.sc v) v
 | nil : RT w F (.list []) (.slice none 0 0)
 | empty (a : Addr) : RT w F (.list []) (.slice (some a) 0 0)
 | vacE (a : Addr) : RT w F .vac (.slice (some a) 0 0)
 | vac (b o cap lim : Nat) : F b = some lim -> o <= lim -> RT w F .vac (.slice (some ⟨b, o, none⟩) 0 cap)
 | list (es : List T) (b o cap sz lim : Nat) (val : Nat -> Value) : F b = some lim -> o + es.length * sz <= lim -> es.length <= cap -> 0 < sz →
   (∀ y ∈ es, y.cells.length = sz) →
   (∀ k x, (es.flatMap T.cells)[k]? = some x -> w.cell? ⟨b, o + k, none⟩ = some (val k)) →
   (∀ k x, (es.flatMap T.cells)[k]? = some x -> RT w F x (val k)) →
   RT w F (.list es) (.slice (some ⟨b, o, none⟩) es.length cap)
def Bare (v : Value) : Prop := v = .slice none 0 0 \/ ∃ a, v = .slice (some a) 0 0
def RAt (w : World) (F : Nat -> Option Nat) (b o : Nat) (cs : List T) : Prop :=
 ∀ k x, cs[k]? = some x -> ∃ v, w.cell? ⟨b, o + k, none⟩ = some v /\ RT w F x v
structure RList (w : World) (F : Nat -> Option Nat) (sz : Nat) (es : List T) (b o lim : Nat) : Prop where
 isLim : F b = some lim
 le : o + es.length * sz <= lim
 pos : 0 < sz
 size : ∀ y ∈ es, y.cells.length = sz
 at_ : RAt w F b o (es.flatMap T.cells)
theorem RT.ofList {w : World} {F : Nat -> Option Nat} {sz b o lim cap : Nat} {es : List T} (h : RList w F sz es b o lim) (hc : es.length <= cap) :
  RT w F (.list es) (.slice (some ⟨b, o, none⟩) es.length cap) := by
 refine .list es b o cap sz lim (fun k => (w.cell? ⟨b, o + k, none⟩).getD undef) h.isLim h.le hc h.pos h.size ?_ ?_
 ·intro k x hk
  obtain ⟨v, hv, _⟩ := h.at_ k x hk
  simp [hv]
 ·intro k x hk
  obtain ⟨v, hv, hr⟩ := h.at_ k x hk
  simpa [hv] using hr
theorem RT.toList {w : World} {F : Nat -> Option Nat} {es : List T} {v : Value} (h : RT w F (.list es) v) :
  (es = [] /\ Bare v) \/ ∃ b o cap sz lim, v = .slice (some ⟨b, o, none⟩) es.length cap /\ es.length <= cap /\ RList w F sz es b o lim := by
 cases h with
 | nil => exact .inl ⟨rfl, .inl rfl⟩
 | empty a => exact .inl ⟨rfl, .inr ⟨a, rfl⟩⟩
 | list es b o cap sz lim val h1 h2 h3 h4 h5 h6 h7 =>
  exact .inr ⟨b, o, cap, sz, lim, rfl, h3, ⟨h1, h2, h4, h5, fun k x hk => ⟨_, h6 k x hk, h7 k x hk⟩⟩⟩
theorem Bare.rt {w : World} {F : Nat -> Option Nat} {v : Value} (h : Bare v) : RT w F (.list []) v := by
 rcases h with rfl | ⟨a, rfl⟩
 ·exact .nil
 ·exact .empty a
theorem RT.toSc {w : World} {F : Nat -> Option Nat} {u v : Value} (h : RT w F (.sc u) v) : v = u /\ flat u = true := by
 cases h; exact ⟨rfl, by assumption⟩
theorem flat_oneCell : ∀ {v : Value}, flat v = true -> v.oneCell' = true
 | .bool _, _ => rfl
 | .int .., _ => rfl
 | .float .., _ => rfl
 | .complex .., _ => rfl
 | .string _, _ => rfl
 | .pointer _, _ => rfl
 | .nilFunc, _ => rfl
 | .nilIface, _ => rfl
 | .iface .., _ => rfl
 | .slice .., h => rfl
 | .map _, h => rfl
 | .chan _, h => rfl
 | .func .., h => rfl
 | .agg _, h => by simp [flat] at h
 | .tuple _, h => by simp [flat] at h
theorem RT.oneCell {w : World} {F : Nat -> Option Nat} {x : T} {v : Value} (h : RT w F x v) : v.oneCell' = true := by
 cases h with
 | sc v hf => exact flat_oneCell hf
 | nil => rfl
 | empty => rfl
 | vacE => rfl
 | vac => rfl
 | list => rfl
def Keeps (w : World) (F : Nat -> Option Nat) (w' : World) (F' : Nat -> Option Nat) : Prop :=
 ∀ b lim, F b = some lim -> ∃ lim', F' b = some lim' /\ lim <= lim' /\ ∀ o, o < lim -> w'.cell? ⟨b, o, none⟩ = w.cell? ⟨b, o, none⟩
theorem Keeps.refl (w : World) (F : Nat -> Option Nat) : Keeps w F w F := fun b lim h => ⟨lim, h, Nat.le_refl _, fun _ _ => rfl⟩
theorem Keeps.trans {w w' w'' : World} {F F' F'' : Nat -> Option Nat} (h : Keeps w F w' F') (k : Keeps w' F' w'' F'') : Keeps w F w'' F'' := by
 intro b lim hb
 obtain ⟨l1, h1, h2, h3⟩ := h b lim hb
 obtain ⟨l2, k1, k2, k3⟩ := k b l1 h1
 exact ⟨l2, k1, by omega, fun o ho => (k3 o (by omega)).trans (h3 o ho)⟩
theorem length_flat {sz : Nat} : ∀ {es : List T}, (∀ y ∈ es, y.cells.length = sz) -> (es.flatMap T.cells).length = es.length * sz
 | [], _ => by simp
 | y :: es, h => by
  have := length_flat (es := es) (fun z hz => h z (by simp [hz]))
  simp only [List.flatMap_cons, List.length_append, List.length_cons, this, h y (by simp), Nat.add_mul]
  omega
theorem RT.keep {w w' : World} {F F' : Nat -> Option Nat} (hk : Keeps w F w' F') {x : T} {v : Value} (h : RT w F x v) : RT w' F' x v := by
 induction h with
 | sc v hf => exact .sc v hf
 | nil => exact .nil
 | empty a => exact .empty a
 | vacE a => exact .vacE a
 | vac b o cap lim h1 h2 =>
  obtain ⟨lim', k1, k2, _⟩ := hk b lim h1
  exact .vac b o cap lim' k1 (by omega)
 | list es b o cap sz lim val h1 h2 h3 h4 h5 h6 h7 ih =>
  obtain ⟨lim', k1, k2, k3⟩ := hk b lim h1
  refine .list es b o cap sz lim' val k1 (by omega) h3 h4 h5 ?_ ih
  intro k x hx
  rw [k3 _ ?_]
  ·exact h6 k x hx
  ·have := (List.getElem?_eq_some_iff.1 hx).1
   rw [length_flat h5] at this
   omega
theorem RAt.keep {w w' : World} {F F' : Nat -> Option Nat} (hk : Keeps w F w' F') {b o lim : Nat} {cs : List T} (hb : F b = some lim) (hl : o + cs.length <= lim) (h : RAt w F b o cs) :
  RAt w' F' b o cs := by
 intro k x hx
 obtain ⟨v, h1, h2⟩ := h k x hx
 obtain ⟨lim', k1, k2, k3⟩ := hk b lim hb
 have := (List.getElem?_eq_some_iff.1 hx).1
 exact ⟨v, (k3 _ (by omega)).trans h1, h2.keep hk⟩
structure Gh where
 F : Nat -> Option Nat
 φ : Nat -> Option Nat
 O : Nat -> Option Loc
def ROwn (w : World) (g : Gh) (l : Loc) (sz : Nat) (es : List T) (v : Value) : Prop :=
 (es = [] /\ Bare v) \/ ∃ b o cap lim, v = .slice (some ⟨b, o, none⟩) es.length cap /\ es.length <= cap /\ RList w g.F sz es b o lim ∧
  (cap = es.length \/ (g.O b = some l /\ lim = o + es.length * sz /\ ∃ c e, w.heap[b]? = some (.cells c e (0, 0)) /\ o + cap * sz <= c.size))
mutual
def RelV (w : World) (g : Gh) (l : Loc) : V -> Value -> Prop
 | .undef, v => v = undef
 | .any, _ => True
 | .nil, v => v = .slice none 0 0
 | .t x, v => RT w g.F x v
 | .own sz es, v => ROwn w g l sz es v
 | .ptr id off, v => ∃ b, g.φ id = some b /\ v = .pointer (some ⟨b, off, none⟩)
 | .aptr id off st n k, v => ∃ b, g.φ id = some b /\ v = .pointer (some ⟨b, off + k.toNat * st, none⟩)
 | .cptr cs, v => ∃ b o lim, v = .pointer (some ⟨b, o, none⟩) /\ g.F b = some lim /\ o + cs.length <= lim /\ RAt w g.F b o cs
 | .agg vs, v => ∃ xs, v = .agg xs /\ RelL w g vs xs.toList
 | .tup vs, v => ∃ xs, v = .tuple xs /\ RelL w g vs xs.toList
 | .fn f caps, v => ∃ xs, v = .func (.func f) #[] xs /\ RelL w g caps xs.toList
def RelL (w : World) (g : Gh) : List V -> List Value -> Prop
 | [], [] => True
 | v :: vs, x :: xs => RelV w g .nil v x /\ RelL w g vs xs
 | [], _ :: _ => False
 | _ :: _, [] => False
end
theorem RelL.length {w : World} {g : Gh} : ∀ {vs : List V} {xs : List Value}, RelL w g vs xs -> vs.length = xs.length
 | [], [], _ => rfl
 | _ :: vs, _ :: xs, h => by simp only [RelL] at h; simp [RelL.length h.2]
 | [], _ :: _, h => by simp [RelL] at h
 | _ :: _, [], h => by simp [RelL] at h
theorem RelL.get {w : World} {g : Gh} : ∀ {vs : List V} {xs : List Value}, RelL w g vs xs -> ∀ {k : Nat} {v : V}, vs[k]? = some v -> ∃ x, xs[k]? = some x /\ RelV w g .nil v x
 | [], [], _, k, v, hk => by simp at hk
 | v0 :: vs, x0 :: xs, h, 0, v, hk => by simp only [RelL] at h; simp at hk; subst hk; exact ⟨x0, by simp, h.1⟩
 | v0 :: vs, x0 :: xs, h, k + 1, v, hk => by simp only [RelL] at h; simp at hk; simpa using RelL.get h.2 hk
 | [], _ :: _, h, _, _, _ => by simp [RelL] at h
 | _ :: _, [], h, _, _, _ => by simp [RelL] at h
theorem RelL.of {w : World} {g : Gh} : ∀ {vs : List V} {xs : List Value}, vs.length = xs.length -> (∀ (k : Nat) (v : V) (x : Value), vs[k]? = some v -> xs[k]? = some x -> RelV w g .nil v x) -> RelL w g vs xs
 | [], [], _, _ => by simp [RelL]
 | v :: vs, x :: xs, hl, h => by
  simp only [RelL]
  exact ⟨h 0 v x (by simp) (by simp), RelL.of (by simpa using hl) (fun k u y hu hy => h (k + 1) u y (by simpa using hu) (by simpa using hy))⟩
 | [], _ :: _, hl, _ => by simp at hl
 | _ :: _, [], hl, _ => by simp at hl
structure Later (w : World) (g : Gh) (w' : World) (g' : Gh) : Prop where
 keeps : Keeps w g.F w' g'.F
 box : ∀ id b, g.φ id = some b -> g'.φ id = some b
def Room (w : World) (g : Gh) (w' : World) (g' : Gh) (l : Loc) : Prop :=
 ∀ b, g.O b = some l -> g'.O b = some l /\ g'.F b = g.F b /\ w'.heap[b]? = w.heap[b]?
theorem ROwn.later {w w' : World} {g g' : Gh} (hk : Later w g w' g') {l l' : Loc} (hr : ∀ b, g.O b = some l -> g'.O b = some l' /\ g'.F b = g.F b /\ w'.heap[b]? = w.heap[b]?)
  {sz : Nat} {es : List T} {v : Value} (h : ROwn w g l sz es v) : ROwn w' g' l' sz es v := by
 rcases h with h | ⟨b, o, cap, lim, rfl, h2, h3, h4⟩
 ·exact .inl h
 right
 obtain ⟨lim', k1, k2, k3⟩ := hk.keeps b lim h3.isLim
 rcases h4 with h4 | ⟨h4, h5, c, e, h6, h7⟩
 ·refine ⟨b, o, cap, lim', rfl, h2, ⟨k1, by have := h3.le; omega, h3.pos, h3.size, ?_⟩, .inl h4⟩
  exact h3.at_.keep hk.keeps h3.isLim (by rw [length_flat h3.size]; exact h3.le)
 ·obtain ⟨r1, r2, r3⟩ := hr b h4
  refine ⟨b, o, cap, lim, rfl, h2, ⟨by rw [r2]; exact h3.isLim, h3.le, h3.pos, h3.size, ?_⟩, .inr ⟨r1, h5, c, e, by rw [r3]; exact h6, h7⟩⟩
  exact h3.at_.keep hk.keeps h3.isLim (by rw [length_flat h3.size]; exact h3.le)
mutual
theorem RelV.later {w w' : World} {g g' : Gh} (hk : Later w g w' g') (hn : ∀ b, g.O b ≠ some .nil) {l l' : Loc} (hr : ∀ b, g.O b = some l -> g'.O b = some l' /\ g'.F b = g.F b /\ w'.heap[b]? = w.heap[b]?) :
  ∀ {v : V} {x : Value}, RelV w g l v x -> RelV w' g' l' v x
 | .undef, x, h => by simp only [RelV] at *; exact h
 | .any, x, h => by simp only [RelV] at *
 | .nil, x, h => by simp only [RelV] at *; exact h
 | .t y, x, h => by simp only [RelV] at *; exact h.keep hk.keeps
 | .own sz es, x, h => by simp only [RelV] at *; exact h.later hk hr
 | .ptr id off, x, h => by
  simp only [RelV] at *
  obtain ⟨b, h1, h2⟩ := h
  exact ⟨b, hk.box id b h1, h2⟩
 | .aptr id off st n k, x, h => by
  simp only [RelV] at *
  obtain ⟨b, h1, h2⟩ := h
  exact ⟨b, hk.box id b h1, h2⟩
 | .cptr cs, x, h => by
  simp only [RelV] at *
  obtain ⟨b, o, lim, h1, h2, h3, h4⟩ := h
  obtain ⟨lim', k1, k2, k3⟩ := hk.keeps b lim h2
  exact ⟨b, o, lim', h1, k1, by omega, h4.keep hk.keeps h2 h3⟩
 | .agg vs, x, h => by
  simp only [RelV] at *
  obtain ⟨xs, h1, h2⟩ := h
  exact ⟨xs, h1, RelL.later hk hn h2⟩
 | .tup vs, x, h => by
  simp only [RelV] at *
  obtain ⟨xs, h1, h2⟩ := h
  exact ⟨xs, h1, RelL.later hk hn h2⟩
 | .fn f vs, x, h => by
  simp only [RelV] at *
  obtain ⟨xs, h1, h2⟩ := h
  exact ⟨xs, h1, RelL.later hk hn h2⟩
theorem RelL.later {w w' : World} {g g' : Gh} (hk : Later w g w' g') (hn : ∀ b, g.O b ≠ some .nil) :
  ∀ {vs : List V} {xs : List Value}, RelL w g vs xs -> RelL w' g' vs xs
 | [], [], h => by simp only [RelL]
 | v :: vs, x :: xs, h => by
  simp only [RelL] at *
  exact ⟨RelV.later hk hn (fun b hb => absurd hb (hn b)) h.1, RelL.later hk hn h.2⟩
 | [], _ :: _, h => by simp [RelL] at h
 | _ :: _, [], h => by simp [RelL] at h
end
theorem RelV.plain {w : World} {g : Gh} {l l' : Loc} : ∀ {v : V} {x : Value}, RelV w g l v x -> RelV w g l' v.plain x := by
 intro v x h
 cases v <;> simp only [V.plain, RelV] at * <;> try exact h
 rcases h with ⟨rfl, hb⟩ | ⟨b, o, cap, lim, rfl, h2, h3, h4⟩
 ·exact hb.rt
 exact RT.ofList h3 h2
theorem RelV.list {w : World} {g : Gh} {l : Loc} {v : V} {x : Value} {es : List T} (h : RelV w g l v x) (hv : v.list = some es) : RT w g.F (.list es) x := by
 cases v with
 | nil => simp only [V.list, Option.some.injEq] at hv; subst hv; simp only [RelV] at h; subst h; exact .nil
 | t y =>
  cases y with
  | list zs => simp only [V.list, Option.some.injEq] at hv; subst hv; simpa only [RelV] using h
  | vac =>
   simp only [V.list, Option.some.injEq] at hv
   subst hv
   simp only [RelV] at h
   cases h with
   | vacE a => exact .empty a
   | vac b o cap lim h1 h2 => exact RT.ofList (sz := 1) ⟨h1, by simpa using h2, Nat.one_pos, by simp, fun k x hk => by simp at hk⟩ (Nat.zero_le _)
  | _ => simp [V.list] at hv
 | own sz ys =>
  simp only [V.list, Option.some.injEq] at hv; subst hv
  simp only [RelV] at h
  rcases h with ⟨rfl, hb⟩ | ⟨b, o, cap, lim, rfl, h2, h3, h4⟩
  ·exact hb.rt
  exact RT.ofList h3 h2
 | _ => simp [V.list] at hv
theorem RelV.toT {w : World} {g : Gh} {l : Loc} {v : V} {x : Value} {y : T} (h : RelV w g l v x) (hv : v.toT = some y) : RT w g.F y x := by
 cases v with
 | nil => simp only [V.toT, Option.some.injEq] at hv; subst hv; simp only [RelV] at h; subst h; exact .nil
 | t z => simp only [V.toT, Option.some.injEq] at hv; subst hv; simpa only [RelV] using h
 | own sz ys =>
  simp only [V.toT, Option.some.injEq] at hv; subst hv
  exact RelV.list (v := .own sz ys) h rfl
 | _ => simp [V.toT] at hv
def V.still : V -> Bool
 | .own .. => false
 | _ => true
theorem RelV.anyLoc {w : World} {g : Gh} {l l' : Loc} {v : V} {x : Value} (hs : v.still = true) (h : RelV w g l v x) : RelV w g l' v x := by
 cases v <;> simp only [RelV] at * <;> try exact h
 simp [V.still] at hs
theorem RelV.ofNil {w : World} {g : Gh} (hn : ∀ b, g.O b ≠ some .nil) {l : Loc} {v : V} {x : Value} (h : RelV w g .nil v x) : RelV w g l v x := by
 cases v <;> simp only [RelV] at * <;> try exact h
 rcases h with h | ⟨b, o, cap, lim, h1, h2, h3, h4⟩
 ·exact .inl h
 exact .inr ⟨b, o, cap, lim, h1, h2, h3, h4.imp id (fun h => absurd h.1 (hn b))⟩
theorem RelV.asPtr {w : World} {g : Gh} {l : Loc} {v : V} {x : Value} {id off : Nat} (h : RelV w g l v x) (hv : v.asPtr = some (id, off)) : ∃ b, g.φ id = some b /\ x = .pointer (some ⟨b, off, none⟩) := by
 cases v with
 | ptr id' off' => simp only [V.asPtr, Option.some.injEq, Prod.mk.injEq] at hv; obtain ⟨rfl, rfl⟩ := hv; simpa only [RelV] using h
 | aptr id' off' st n k => simp only [V.asPtr, Option.some.injEq, Prod.mk.injEq] at hv; obtain ⟨rfl, rfl⟩ := hv; simpa only [RelV] using h
 | _ => simp [V.asPtr] at hv
theorem plain_still (v : V) : v.plain.still = true := by cases v <;> rfl
end Go.Eng
