/- The engine: a law's arguments: slices of structs of numbers and a slice of numbers. -/
import Derived.Test.YtgpokdaacbjimabEngWF
set_option linter.unusedVariables false
set_option linter.unusedSimpArgs false
namespace Go.Eng
open Go.RowKit Go.ChangeShapes Go.WideShapes Go.ChangeAt
def FS (W : World) : Nat -> Option Nat := fun b => match W.heap[b]? with
 | some (.cells c _ _) => some c.size
 | _ => none
theorem FS.lt {W : World} {b lim : Nat} (h : FS W b = some lim) : b < W.heap.size := by
 unfold FS at h
 by_cases hb : b < W.heap.size
 ·exact hb
 ·rw [Array.getElem?_eq_none (Nat.le_of_not_lt hb)] at h; cases h
theorem cell_FS {W : World} {a : Addr} {v : Value} (h : W.cell? a = some v) : a.spot = none /\ ∃ lim, FS W a.block = some lim /\ a.off < lim := by
 unfold World.cell? at h
 unfold FS
 split at h
 ·rename_i c e f hc
  split at h
  ·cases h
  ·rename_i hs
   rw [hc]
   exact ⟨by simpa using hs, _, rfl, (Array.getElem?_eq_some_iff.1 h).1⟩
 ·cases h
theorem add_spot {b o i : Nat} : (⟨b, o, none⟩ : Addr).add i = ⟨b, o + i, none⟩ := by
 unfold Addr.add
 split
 ·rename_i h; subst h; rfl
 ·rfl
theorem flat_at {sz : Nat} (hp : 0 < sz) : ∀ {es : List T}, (∀ y ∈ es, y.cells.length = sz) -> ∀ {k : Nat} {x : T}, (es.flatMap T.cells)[k]? = some x -> ∃ y, es[k / sz]? = some y /\ y.cells[k % sz]? = some x
 | [], _, k, x, h => by simp at h
 | y :: es, hs, k, x, h => by
  have hy := hs y (by simp)
  rw [List.flatMap_cons] at h
  by_cases hk : k < sz
  ·rw [List.getElem?_append_left (by omega)] at h
   exact ⟨y, by rw [Nat.div_eq_of_lt hk]; rfl, by rw [Nat.mod_eq_of_lt hk]; exact h⟩
  ·rw [List.getElem?_append_right (by omega), hy] at h
   obtain ⟨z, h1, h2⟩ := flat_at hp (fun z hz => hs z (by simp [hz])) h
   have e1 : k / sz = (k - sz) / sz + 1 := Nat.div_eq_sub_div hp (by omega)
   have e2 : k % sz = (k - sz) % sz := (Nat.mod_eq_sub_mod (by omega))
   exact ⟨z, by rw [e1]; simpa using h1, by rw [e2]; exact h2⟩
theorem rt_ints {P : Program} {W : World} {H : Type} {enc : TypeId × Value -> H} {base : Nat} {t e : TypeId} {fuel : Nat} {v : Value} {y : DataW H × List MemPlace} (ht : P.underlying t = some (.slice e)) (he : P.underlying e = some (.int .i64)) (hc : P.cellsOf e = 1)
  (h : DataW.trod enc P W base (fun _ => true) true fuel t [v] = some y) : ∃ zs : List Int, RT W (FS W) (.list (ints .i64 zs)) v /\ ∀ n ∈ zs, (Lit.int .i64 n).wf = true := by
 rcases open_ints ht he hc h with ⟨hcs, _⟩ | ⟨a, len, cap, zs, hcs, _, hl, hm, hz, _, hcell, hwz⟩
 ·simp only [List.cons.injEq, and_true] at hcs
  subst hcs
  exact ⟨[], .nil, by simp⟩
 ·simp only [List.cons.injEq, and_true] at hcs
  subst hcs
  have hzl : zs.length = cap := by simpa using hz
  by_cases hc0 : cap = 0
  ·have hl0 : len = 0 := by omega
   subst hl0
   subst hc0
   exact ⟨[], .empty a, by simp⟩
  ·have h0 := hcell 0 (by omega)
   have ha0 : a.add 0 = a := by unfold Addr.add; rfl
   rw [ha0] at h0
   obtain ⟨hsp, lim, hlim, hoff⟩ := cell_FS h0
   obtain ⟨b, o, sp⟩ := a
   simp only at hsp hlim hoff
   subst hsp
   refine ⟨zs.take len, ?_, fun n hn => hwz n (List.mem_of_mem_take hn)⟩
   have hlen : (ints .i64 (zs.take len)).length = len := by simp [ints]; omega
   have key : RT W (FS W) (.list (ints .i64 (zs.take len))) (.slice (some ⟨b, o, none⟩) (ints .i64 (zs.take len)).length cap) := by
    refine RT.ofList (sz := 1) (lim := lim) ⟨hlim, ?_, by omega, ?_, ?_⟩ (by omega)
    ·rw [hlen]
     by_cases hl0 : len = 0
     ·omega
     ·have h1 := hcell (len - 1) (by omega)
      rw [add_spot] at h1
      obtain ⟨_, lim', q1, q2⟩ := cell_FS h1
      simp only at q1 q2
      rw [hlim] at q1
      cases q1
      omega
    ·intro y hy
     simp only [ints, List.mem_map] at hy
     obtain ⟨n, _, rfl⟩ := hy
     rfl
    ·intro i x hx
     rw [ints_flat] at hx
     simp only [ints, List.getElem?_map] at hx
     obtain ⟨n, hi, rfl⟩ := Option.map_eq_some_iff.1 hx
     have hlt := (List.getElem?_eq_some_iff.1 hi).1
     simp only [List.length_take] at hlt
     refine ⟨_, by rw [<- add_spot]; exact hcell i (by omega), ?_⟩
     rw [List.getElem?_take_of_lt (by omega)] at hi
     rw [List.getD_eq_getElem?_getD, hi]
     exact .sc _ rfl
   rw [hlen] at key
   exact key
structure Act5 where
 w : Int
 a : Int
 b : Int
 n : Int
 e : List Int
def Act5.t (x : Act5) : T := .agg [(T.sc (.int .i64 x.w)), (T.sc (.int .i64 x.a)), (T.sc (.int .i64 x.b)), (T.sc (.int .i64 x.n)), (T.list (ints .i64 x.e))]
def Act5.wf (x : Act5) : Prop := (Lit.int .i64 x.w).wf = true /\ (Lit.int .i64 x.a).wf = true /\ (Lit.int .i64 x.b).wf = true /\ (Lit.int .i64 x.n).wf = true /\ ∀ z ∈ x.e, (Lit.int .i64 z).wf = true
theorem list_of {α : Type} {Q : Nat -> α -> Prop} : ∀ (n : Nat), (∀ i, i < n -> ∃ x, Q i x) -> ∃ l : List α, l.length = n /\ ∀ i x, l[i]? = some x -> Q i x
 | 0, _ => ⟨[], rfl, by simp⟩
 | n + 1, h => by
  obtain ⟨l, h1, h2⟩ := list_of n (fun i hi => h i (by omega))
  obtain ⟨x, hx⟩ := h n (by omega)
  refine ⟨l ++ [x], by simp [h1], fun i y hy => ?_⟩
  by_cases hi : i < n
  ·rw [List.getElem?_append_left (by omega)] at hy; exact h2 i y hy
  ·rw [List.getElem?_append_right (by omega)] at hy
   have : i = n := by
    have := (List.getElem?_eq_some_iff.1 hy).1
    simp at this
    omega
   subst this
   simp [h1] at hy
   subst hy
   exact hx
theorem open_acts {P : Program} {W : World} {H : Type} {enc : TypeId × Value -> H} {base : Nat} {t e it s : TypeId} {f0 f1 f2 f3 f4 : Field} {v : Value} {d : DataW H} {ps : List MemPlace} (ht : P.underlying t = some (.slice e)) (he : P.underlying e = some (.struct #[f0, f1, f2, f3, f4]))
  (h0 : f0.type = it /\ f0.offset = 0) (h1 : f1.type = it /\ f1.offset = 1) (h2 : f2.type = it /\ f2.offset = 2) (h3 : f3.type = it /\ f3.offset = 3) (h4 : f4.type = s /\ f4.offset = 4)
  (hi : P.underlying it = some (.int .i64)) (hs : P.underlying s = some (.slice it)) (hci : P.cellsOf it = 1) (hcs : P.cellsOf s = 1) (hce : P.cellsOf e = 5)
  (hval : Value.okWide P W .any base t v) (hd : DataW.Trod enc P W 0 (fun _ => true) true t v d ps) :
  ∃ (a : Option Addr) (len cap : Nat) (acts : List Act5), v = .slice a len cap /\ RT W (FS W) (.list (acts.map Act5.t)) v /\ ∀ x ∈ acts, x.wf := by
 obtain ⟨a, len, cap, rfl⟩ := okWide_slice ht hval
 obtain ⟨fuel, hf⟩ := hd
 rcases DataW.trod_slice ht hf with ⟨hcs', _⟩ | ⟨a', len', cap', elems, rest, n, _, hcs', _, _, hl, hm, hlen, hel, hsp, _⟩
 ·simp [Value.cells] at hcs'
  obtain ⟨rfl, rfl, rfl⟩ := hcs'
  exact ⟨_, _, _, [], rfl, .nil, by simp⟩
 ·simp [Value.cells] at hcs'
  obtain ⟨rfl, rfl, rfl⟩ := hcs'
  by_cases hc0 : cap = 0
  ·have hl0 : len = 0 := by omega
   subst hl0
   subst hc0
   exact ⟨_, _, _, [], rfl, .empty a', by simp⟩
  ·
   have each : ∀ i, i < len -> ∃ x : Act5, x.wf /\ (∀ j v, (Act5.t x).cells[j]? = some v -> ∃ u, W.cell? ((a'.add (i * 5)).add j) = some u /\ RT W (FS W) v u) := by
    intro i hi'
    have hb := hel i hi'
    have hex : ∃ y, elems[i]? = some y := ⟨_, List.getElem?_eq_getElem (by omega)⟩
    obtain ⟨y, hy⟩ := hex
    rw [hy, hce, Option.bind_eq_some_iff] at hb
    obtain ⟨cs', hcells, hyt⟩ := hb
    obtain ⟨_, hlen5, hcell⟩ := World.cells?_some hcells
    obtain ⟨xs, k, _, _, _, hxl, hfld⟩ := DataW.trod_struct he hyt
    match xs, hxl, cs', hlen5 with
    | [y0, y1, y2, y3, y4], _, [v0, v1, v2, v3, v4], _ =>
     have g0 := hfld 0 f0 rfl
     have g1 := hfld 1 f1 rfl
     have g2 := hfld 2 f2 rfl
     have g3 := hfld 3 f3 rfl
     have g4 := hfld 4 f4 rfl
     simp [h0.1, h0.2, hci] at g0
     simp [h1.1, h1.2, hci] at g1
     simp [h2.1, h2.2, hci] at g2
     simp [h3.1, h3.2, hci] at g3
     simp [h4.1, h4.2, hcs] at g4
     obtain ⟨m0, e0, _, w0⟩ := DataW.trod_int hi g0
     obtain ⟨m1, e1, _, w1⟩ := DataW.trod_int hi g1
     obtain ⟨m2, e2, _, w2⟩ := DataW.trod_int hi g2
     obtain ⟨m3, e3, _, w3⟩ := DataW.trod_int hi g3
     simp only [List.cons.injEq, and_true] at e0 e1 e2 e3
     obtain ⟨zs, hr, hw⟩ := rt_ints hs hi hci g4
     refine ⟨⟨m0, m1, m2, m3, zs⟩, ⟨w0, w1, w2, w3, hw⟩, fun j v hj => ?_⟩
     have hcj : ∀ j, j < 5 -> W.cell? ((a'.add (i * 5)).add j) = [v0, v1, v2, v3, v4][j]? := fun j hj => hcell j hj
     match j, hj with
     | 0, hj => simp [Act5.t, T.cells] at hj; subst hj; exact ⟨v0, by simpa using hcj 0 (by omega), by rw [e0]; exact .sc _ rfl⟩
     | 1, hj => simp [Act5.t, T.cells] at hj; subst hj; exact ⟨v1, by simpa using hcj 1 (by omega), by rw [e1]; exact .sc _ rfl⟩
     | 2, hj => simp [Act5.t, T.cells] at hj; subst hj; exact ⟨v2, by simpa using hcj 2 (by omega), by rw [e2]; exact .sc _ rfl⟩
     | 3, hj => simp [Act5.t, T.cells] at hj; subst hj; exact ⟨v3, by simpa using hcj 3 (by omega), by rw [e3]; exact .sc _ rfl⟩
     | 4, hj => simp [Act5.t, T.cells] at hj; subst hj; exact ⟨v4, by simpa using hcj 4 (by omega), hr⟩
     | j + 5, hj => simp [Act5.t, T.cells] at hj
   obtain ⟨acts, hal, hat⟩ := list_of len each
   have hroom : (∃ u, W.cell? a' = some u) /\ ∀ i, i < len -> ∃ u, W.cell? ((a'.add (i * 5)).add 4) = some u := by
    refine ⟨?_, fun i hi' => ?_⟩
    ·by_cases hl0 : len = 0
     ·obtain ⟨_, hr⟩ := hsp rfl
      have hb := hr 0 (by omega)
      have hex : ∃ y, rest[0]? = some y := ⟨_, List.getElem?_eq_getElem (by have := (hsp rfl).1; omega)⟩
      obtain ⟨y, hy⟩ := hex
      rw [hy, hce, Option.bind_eq_some_iff] at hb
      obtain ⟨cs', hcells, _⟩ := hb
      obtain ⟨_, hlen5, hcell⟩ := World.cells?_some hcells
      have := hcell 0 (by omega)
      rw [hl0] at this
      simp only [Nat.zero_add, Nat.zero_mul] at this
      match cs', hlen5 with
      | u :: _, _ => exact ⟨u, by simpa [Addr.add] using this⟩
     ·obtain ⟨x, hx⟩ : ∃ x, acts[0]? = some x := ⟨_, List.getElem?_eq_getElem (by omega)⟩
      obtain ⟨u, hu, _⟩ := (hat 0 x hx).2 0 _ rfl
      exact ⟨u, by simpa [Addr.add] using hu⟩
    ·obtain ⟨x, hx⟩ : ∃ x, acts[i]? = some x := ⟨_, List.getElem?_eq_getElem (by omega)⟩
     obtain ⟨u, hu, _⟩ := (hat i x hx).2 4 _ rfl
     exact ⟨u, hu⟩
   obtain ⟨⟨u0, hu0⟩, hlast⟩ := hroom
   obtain ⟨hspn, lim, hlim, hoff⟩ := cell_FS hu0
   obtain ⟨b, o, sp⟩ := a'
   simp only at hspn hlim hoff
   subst hspn
   refine ⟨_, _, _, acts, rfl, ?_, fun x hx => by obtain ⟨i, hi'⟩ := List.getElem?_of_mem hx; exact (hat i x hi').1⟩
   have hmlen : (acts.map Act5.t).length = len := by simp [hal]
   have hsz : ∀ y ∈ acts.map Act5.t, y.cells.length = 5 := by
    intro y hy
    obtain ⟨x, _, rfl⟩ := List.mem_map.1 hy
    rfl
   have key : RT W (FS W) (.list (acts.map Act5.t)) (.slice (some ⟨b, o, none⟩) (acts.map Act5.t).length cap) := by
    refine RT.ofList (sz := 5) (lim := lim) ⟨hlim, ?_, by omega, hsz, ?_⟩ (by omega)
    ·rw [hmlen]
     by_cases hl0 : len = 0
     ·omega
     ·obtain ⟨u, hu⟩ := hlast (len - 1) (by omega)
      rw [add_spot, add_spot] at hu
      obtain ⟨_, lim', q1, q2⟩ := cell_FS hu
      simp only at q1 q2
      rw [hlim] at q1
      cases q1
      omega
    ·intro k x hx
     obtain ⟨y, hy1, hy2⟩ := flat_at (by omega) hsz hx
     rw [List.getElem?_map] at hy1
     obtain ⟨z, hz, rfl⟩ := Option.map_eq_some_iff.1 hy1
     obtain ⟨u, hu, hr⟩ := (hat (k / 5) z hz).2 (k % 5) x hy2
     rw [add_spot, add_spot] at hu
     exact ⟨u, by rw [<- hu]; congr 2; omega, hr⟩
   rw [hmlen] at key
   exact key
inductive ArgsF (W : World) : List V -> List Value -> Prop
 | nil : ArgsF W [] []
 | cons {x : T} {v : Value} {vs : List V} {xs : List Value} : RT W (FS W) x v -> ArgsF W vs xs -> ArgsF W (.t x :: vs) (v :: xs)
theorem ArgsF.length {W : World} : ∀ {vs : List V} {xs : List Value}, ArgsF W vs xs -> xs.length = vs.length
 | _, _, .nil => rfl
 | _, _, .cons _ h => by simp [h.length]
theorem ArgsF.get {W : World} {g : Gh} (hF : g.F = FS W) : ∀ {vs : List V} {xs : List Value}, ArgsF W vs xs -> ∀ (i : Nat) (l : Loc) (v : V) (x : Value), vs[i]? = some v -> xs[i]? = some x -> RelV W g l v x
 | _, _, .nil, i, l, v, x, h, _ => by simp at h
 | _, _, .cons h _, 0, l, v, x, h1, h2 => by simp at h1 h2; subst h1; subst h2; simp only [RelV]; rw [hF]; exact h
 | _, _, .cons _ h, i + 1, l, v, x, h1, h2 => h.get hF i l v x (by simpa using h1) (by simpa using h2)
theorem FuncOk.rowsF {P : Program} {W : World} (hT : Tabs P W) {f : FuncId} {vs : List V} {xs : List Value} {b : Bool} (h : FuncOk P f vs [] (.t (.sc (.bool b))) []) (hx : ArgsF W vs xs) :
  Calls P f xs.toArray W fun e w' => e = .returned (.bool b) /\ Below W.heap.size W w' := by
 let g : Gh := ⟨FS W, fun _ => none, fun _ => none⟩
 refine (h.calls W g xs.toArray (by simp [hx.length]) (fun i v x hv hxx => hx.get rfl i _ v x hv (by simpa using hxx)) (fun _ => rfl) ⟨fun b lim h => FS.lt h, fun _ _ h => (by cases h), fun _ h => (by cases h), fun _ _ h => (by cases h), hT.glob (fun _ => rfl) (fun _ => rfl)⟩ (fun _ => rfl)).mono ?_
 rintro e w' ⟨x, g', rfl, hr, hx⟩
 simp only [RelV] at hr
 exact ⟨by rw [hr.toSc.1], hx.os, hx.tape, hx.output, hx.size, fun k hk => (hx.old k hk (fun _ h => by cases h) rfl).1⟩
theorem open_intsF {P : Program} {W : World} {H : Type} {enc : TypeId × Value -> H} {base : Nat} {t e : TypeId} {v : Value} {d : DataW H} {ps : List MemPlace} (ht : P.underlying t = some (.slice e)) (he : P.underlying e = some (.int .i64)) (hc : P.cellsOf e = 1)
  (hval : Value.okWide P W .any base t v) (hd : DataW.Trod enc P W 0 (fun _ => true) true t v d ps) :
  ∃ a len cap zs, v = .slice a len cap /\ RT W (FS W) (.list (ints .i64 zs)) v /\ ∀ n ∈ zs, (Lit.int .i64 n).wf = true := by
 obtain ⟨a, len, cap, rfl⟩ := okWide_slice ht hval
 obtain ⟨fuel, hf⟩ := hd
 obtain ⟨zs, h1, h2⟩ := rt_ints ht he hc (by simpa [Value.cells] using hf)
 exact ⟨a, len, cap, zs, rfl, h1, h2⟩
end Go.Eng
