/- The engine: a law's arguments: numbers, truths, texts, slices of numbers. -/
import Derived.Test.YtimkclpogbfciaaDoorEngWE
import Derived.ProofKit
import Derived.ChangeSlices
set_option linter.unusedVariables false
set_option linter.unusedSimpArgs false
namespace Go.Eng
open Go.RowKit Go.ChangeShapes Go.WideShapes Go.ChangeAt
def FK (W : World) (K : Nat) : Nat -> Option Nat := fun b => if b < W.heap.size then some K else none
def ints (k : IntKind) (zs : List Int) : List T := zs.map fun n => .sc (.int k n)
def IntRow (k : IntKind) (W : World) (a : Option Addr) (len cap : Nat) (zs : List Int) : Prop :=
 (a = none /\ len = 0 /\ cap = 0 /\ zs = []) ∨
 ∃ b o, a = some ⟨b, o, none⟩ /\ b < W.heap.size /\ len <= cap /\ zs.length = len /\ (∀ i, i < zs.length -> W.cell? ⟨b, o + i, none⟩ = some (.int k (zs.getD i 0)))
theorem ints_flat (k : IntKind) : ∀ (zs : List Int), (ints k zs).flatMap T.cells = ints k zs
 | [] => rfl
 | z :: zs => by
  have := ints_flat k zs
  simp only [ints, List.map_cons, List.flatMap_cons, T.cells, List.cons_append, List.nil_append, List.cons.injEq, true_and] at this ⊢
  exact this
theorem IntRow.rt {k : IntKind} {W : World} {a : Option Addr} {len cap K : Nat} {zs : List Int} (h : IntRow k W a len cap zs) (hK : ∀ b o, a = some ⟨b, o, none⟩ -> o + len <= K) : RT W (FK W K) (.list (ints k zs)) (.slice a len cap) := by
 rcases h with ⟨rfl, rfl, rfl, rfl⟩ | ⟨b, o, rfl, hb, hl, hz, hc⟩
 ·exact .nil
 ·have hlen : (ints k zs).length = len := by simp [ints, hz]
  have : RT W (FK W K) (.list (ints k zs)) (.slice (some ⟨b, o, none⟩) (ints k zs).length cap) := by
   refine RT.ofList (sz := 1) (lim := K) ⟨by simp [FK, hb], by rw [hlen]; have := hK b o rfl; omega, by omega, ?_, ?_⟩ (by omega)
   ·intro y hy
    simp only [ints, List.mem_map] at hy
    obtain ⟨n, _, rfl⟩ := hy
    rfl
   ·intro i x hx
    rw [ints_flat] at hx
    simp only [ints, List.getElem?_map] at hx
    cases hi : zs[i]? with
    | none => simp [hi] at hx
    | some n =>
     simp [hi] at hx
     subst hx
     have hlt := (List.getElem?_eq_some_iff.1 hi).1
     refine ⟨_, hc i hlt, ?_⟩
     rw [List.getD_eq_getElem?_getD, hi]
     exact .sc _ rfl
  rw [hlen] at this
  exact this
def rowEnd (a : Option Addr) (len : Nat) : Nat := (match a with | some x => x.off | none => 0) + len
theorem IntRow.rt' {k : IntKind} {W : World} {a : Option Addr} {len cap K : Nat} {zs : List Int} (h : IntRow k W a len cap zs) (hK : rowEnd a len <= K) : RT W (FK W K) (.list (ints k zs)) (.slice a len cap) :=
 h.rt fun b o hb => by subst hb; exact hK
inductive Args (W : World) (K : Nat) : List V -> List Value -> Prop
 | nil : Args W K [] []
 | cons {x : T} {v : Value} {vs : List V} {xs : List Value} : RT W (FK W K) x v -> Args W K vs xs -> Args W K (.t x :: vs) (v :: xs)
theorem Args.length {W : World} {K : Nat} : ∀ {vs : List V} {xs : List Value}, Args W K vs xs -> xs.length = vs.length
 | _, _, .nil => rfl
 | _, _, .cons _ h => by simp [h.length]
theorem Args.get {W : World} {K : Nat} {g : Gh} (hF : g.F = FK W K) : ∀ {vs : List V} {xs : List Value}, Args W K vs xs -> ∀ (i : Nat) (l : Loc) (v : V) (x : Value), vs[i]? = some v -> xs[i]? = some x -> RelV W g l v x
 | _, _, .nil, i, l, v, x, h, _ => by simp at h
 | _, _, .cons h _, 0, l, v, x, h1, h2 => by simp at h1 h2; subst h1; subst h2; simp only [RelV]; rw [hF]; exact h
 | _, _, .cons _ h, i + 1, l, v, x, h1, h2 => h.get hF i l v x (by simpa using h1) (by simpa using h2)
theorem FuncOk.rows {P : Program} {W : World} (hT : Tabs P W) {K : Nat} {f : FuncId} {vs : List V} {xs : List Value} {b : Bool} (h : FuncOk P f vs [] (.t (.sc (.bool b))) []) (hx : Args W K vs xs) :
  Calls P f xs.toArray W fun e w' => e = .returned (.bool b) /\ Below W.heap.size W w' := by
 let g : Gh := ⟨FK W K, fun _ => none, fun _ => none⟩
 refine (h.calls W g xs.toArray (by simp [hx.length]) (fun i v x hv hxx => hx.get rfl i _ v x hv (by simpa using hxx)) (fun _ => rfl) ⟨fun b lim h => ?_, fun _ _ h => (by cases h), fun _ h => (by cases h), fun _ _ h => (by cases h), hT.glob (fun _ => rfl) (fun _ => rfl)⟩ (fun _ => rfl)).mono ?_
 ·simp only [g, FK] at h
  split at h
  ·assumption
  ·cases h
 ·rintro e w' ⟨x, g', rfl, hr, hx⟩
  simp only [RelV] at hr
  exact ⟨by rw [hr.toSc.1], hx.os, hx.tape, hx.output, hx.size, fun k hk => (hx.old k hk (fun _ h => by cases h) rfl).1⟩
theorem open_introw {P : Program} {W : World} {H : Type} {enc : TypeId × Value -> H} {base : Nat} {t e : TypeId} {k : IntKind} {v : Value} {d : DataW H} {ps : List MemPlace} (ht : P.underlying t = some (.slice e)) (he : P.underlying e = some (.int k)) (hc : P.cellsOf e = 1)
  (hval : Value.okWide P W .any base t v) (hd : DataW.Trod enc P W 0 (fun _ => true) true t v d ps) :
  ∃ a len cap zs, v = .slice a len cap /\ IntRow k W a len cap zs /\ (∀ n ∈ zs, (Lit.int k n).wf = true) /\ (zs = [] \/ ∃ el sp, d = .slice el sp /\ zs.length <= el.length + sp.length) := by
 obtain ⟨a, len, cap, rfl⟩ := okWide_slice ht hval
 obtain ⟨fuel, hf⟩ := hd
 have hok : Cell.ok P W .any base t (.slice a len cap) := by
  have := hval
  simp only [Value.okWide, ht, Cell.okWide] at this
  exact this
 rcases open_ints ht he hc hf with ⟨hcs, _⟩ | ⟨x, l, c, zs, hcs, _, hl, hm, hz, hdat, hcell, hwz⟩
 ·simp [Value.cells] at hcs
  obtain ⟨rfl, rfl, rfl⟩ := hcs
  exact ⟨_, _, _, [], rfl, .inl ⟨rfl, rfl, rfl, rfl⟩, by simp, .inl rfl⟩
 ·simp [Value.cells] at hcs
  obtain ⟨rfl, rfl, rfl⟩ := hcs
  simp only [Cell.ok, ht] at hok
  obtain ⟨_, _, _, hspot, row, cells, hsh, _⟩ := hok
  obtain ⟨b, o, sp⟩ := x
  simp only at hspot
  subst hspot
  have hzl : zs.length = cap := by simpa using hz
  refine ⟨_, _, _, zs.take len, rfl, .inr ⟨b, o, rfl, ?_, hl, by simp [hzl, hl], fun i hi => ?_⟩, fun n hn => hwz n (List.mem_of_mem_take hn), .inr ⟨_, _, (Prod.mk.inj hdat).1, by simp [lits]⟩⟩
  ·simp only [World.shape?] at hsh
   by_cases hb : b < W.heap.size
   ·exact hb
   ·rw [Array.getElem?_eq_none (Nat.le_of_not_lt hb)] at hsh; cases hsh
  ·simp only [List.length_take] at hi
   have := hcell i (by omega)
   have e1 : Addr.add ⟨b, o, none⟩ i = ⟨b, o + i, none⟩ := by
    unfold Addr.add
    split
    ·rename_i h0; subst h0; rfl
    ·rfl
   rw [e1] at this
   rw [this, List.getD_eq_getElem?_getD, List.getD_eq_getElem?_getD, List.getElem?_take_of_lt (by omega)]
end Go.Eng
