/- diff.Of's inner function, walked: what was counted is written when the kind turns. No conditions but that numbers are small. -/
import Derived.Test.YtimkclpogbfciaaDoorBld
import Derived.Deep.RegionWith
namespace Go.Proofs.YtimkclpogbfciaaDoor.W
open Go Go.RowKit Go.Shelf
set_option linter.unusedVariables false
set_option linter.unusedSimpArgs false

/-- What is written of a run. -/
def runL (rv : Nat) (c : Nat) : List UInt8 := UInt8.ofNat rv :: (Lib.decDigits c ++ [10])
def nextL (rv : Nat) (c : Nat) (kv : Nat) : List UInt8 := if kv ≠ rv ∧ 0 < c then runL rv c else []
def nextC (rv : Nat) (c : Nat) (kv : Nat) : Nat := if kv ≠ rv ∧ 0 < c then 0 else c

theorem small_string (rv : Nat) (h : rv < 128) : Utf8.encode (rv : Int) = (⟨#[UInt8.ofNat rv]⟩ : ByteArray) := by
  have hv : Utf8.valid (rv : Int) = true := by unfold Utf8.valid; simp; omega
  unfold Utf8.encode
  simp only [hv, if_true, Int.toNat_natCast]
  rw [if_pos (by omega)]
theorem Bld.row {C b : Nat} {l : List UInt8} {w : World} {v : Value} (h : w.ownsRowF C 5 1 v l.length (Lib.byteCells l)) {k : Nat} (hk : k < C) : v.ownBlock ≠ some k := by
  rcases h.2 with ⟨rfl, _⟩ | ⟨g, cap, cur, fz, rfl, hg, _⟩
  · simp [Value.ownBlock]
  · intro e
    simp only [Value.ownBlock, Option.some.injEq] at e
    omega
theorem Bld.set {C b : Nat} {l : List UInt8} {w : World} (h : Bld C b l w) {k o : Nat} (hk : k < C) (hkb : k ≠ b) (x : Value) : Bld C b l (w.setCell ⟨k, o, none⟩ x) := by
  obtain ⟨p, v, hp, hb, hbk, hown⟩ := h
  refine ⟨p, v, hp, hb, ?_, hown.kept (row := some k) ⟨rfl, rfl, rfl, by simp [World.setCell], fun j _ hj => Below.heap_setCell _ _ _ _ (fun e => hj (by simp [e]))⟩ (Or.inr (Bld.row (b := b) hown hk))⟩
  rw [Below.heap_setCell _ _ _ _ (fun e => hkb (by simpa using e.symm))]
  exact hbk
theorem Bld.drew {C b : Nat} {l : List UInt8} {w : World} (h : Bld C b l w) : Bld C b l w.drew := by
  obtain ⟨p, v, hp, hb, hbk, hown⟩ := h
  exact ⟨p, v, hp, hb, hbk, hown⟩
theorem heap_set {w : World} {k : Nat} {v : Value} {T : TypeId} (x : Value) (h : w.heap[k]? = some (.cells #[v] T (0, 0))) : (w.setCell ⟨k, 0, none⟩ x).heap[k]? = some (.cells #[x] T (0, 0)) := by
  simp [World.setCell, Array.getElem?_modify, h]
theorem heap_other {w : World} {k j : Nat} (x : Value) (h : j ≠ k) : (w.setCell ⟨k, 0, none⟩ x).heap[j]? = w.heap[j]? := Below.heap_setCell _ _ _ _ (fun e => h (by simpa using e))

set_option maxHeartbeats 2000000 in
set_option maxRecDepth 100000 in
theorem next_walk (C b br bc : Nat) (rv c kv : Nat) (l : List UInt8) (w : World) (hb : Bld C b l w) (hbr : w.heap[br]? = some (.cells #[.int .u8 rv] 5 (0, 0))) (hbc : w.heap[bc]? = some (.cells #[.int .i64 c] 3 (0, 0)))
    (hrC : br < C) (hcC : bc < C) (hrb : br ≠ b) (hcb : bc ≠ b) (hrc : br ≠ bc) (hC : C ≤ w.heap.size) (hc : c < 100) (hrv : rv < 128) (hkv : kv < 128) (hl : l.length ≤ 70368744177664) :
    Calls Tryd.prog 29 #[.int .u8 kv, .pointer (some ⟨br, 0, none⟩), .pointer (some ⟨bc, 0, none⟩), .pointer (some ⟨b, 0, none⟩)] w fun e w' => e = .returned (.tuple #[]) ∧
      Bld C b (l ++ nextL rv c kv) w' ∧ w'.heap[br]? = some (.cells #[.int .u8 kv] 5 (0, 0)) ∧ w'.heap[bc]? = some (.cells #[.int .i64 (nextC rv c kv)] 3 (0, 0)) ∧
      w'.os = w.os ∧ w'.tape = w.tape ∧ w'.output = w.output ∧ w.heap.size ≤ w'.heap.size ∧ (∀ k, k < C → k ≠ b → k ≠ br → k ≠ bc → k < w.heap.size → w'.heap[k]? = w.heap[k]?) := by
  have c1 : w.cell? ⟨br, 0, none⟩ = some (.int .u8 rv) := by rw [Lib.cell_of_heap hbr]; rfl
  have c2 : w.cell? ⟨bc, 0, none⟩ = some (.int .i64 c) := by rw [Lib.cell_of_heap hbc]; rfl
  have f1 : w.frozen? ⟨br, 0, none⟩ = false := Lib.frozen_of_heap hbr 0
  have f2 : w.frozen? ⟨bc, 0, none⟩ = false := Lib.frozen_of_heap hbc 0
  by_cases hk : kv = rv
  · subst hk
    have e1 : nextL kv c kv = [] := by simp [nextL]
    have e2 : nextC kv c kv = c := by simp [nextC]
    rw [e1, e2, List.append_nil]
    go_enter Tryd.func29, Tryd.ntmps29
    go_wp2
    go_end0
    exact ⟨rfl, hb.set hrC hrb _, heap_set _ hbr, by rw [heap_other _ (fun e => hrc e.symm)]; exact hbc, rfl, rfl, rfl, by simp [World.setCell], fun k _ _ h2 _ _ => heap_other _ h2⟩
  · have hkz : ((kv : Int) != (rv : Int)) = true := by simp; omega
    by_cases h0 : c = 0
    · subst h0
      have e1 : nextL rv 0 kv = [] := by simp [nextL]
      have e2 : nextC rv 0 kv = 0 := by simp [nextC]
      rw [e1, e2, List.append_nil]
      go_enter Tryd.func29, Tryd.ntmps29
      go_wp2
      go_end0
      exact ⟨rfl, hb.set hrC hrb _, heap_set _ hbr, by rw [heap_other _ (fun e => hrc e.symm)]; exact hbc, rfl, rfl, rfl, by simp [World.setCell], fun k _ _ h2 _ _ => heap_other _ h2⟩
    · have hcz : (0 : Int) < (c : Int) := by omega
      have hcz' : 0 < c := by omega
      obtain ⟨U, hU⟩ : ∃ U, Utf8.encode (rv : Int) = U := ⟨_, rfl⟩
      have hU2 : Aside (U = ⟨#[UInt8.ofNat rv]⟩) := hU ▸ small_string rv hrv
      have hit := fun w => Tryd.strconv_Itoa_small c hc w
      have hdl : (Lib.decDigits c).length ≤ 2 := by
        by_cases h10 : c < 10
        · rw [Lib.decDigits_one h10]; simp
        · rw [Lib.decDigits_two (by omega) hc]; simp
      have e1 : nextL rv c kv = UInt8.ofNat rv :: (Lib.decDigits c ++ [10]) := by simp [nextL, hk, hcz', runL]
      have e2 : nextC rv c kv = 0 := by simp [nextC, hk, hcz']
      rw [e1, e2]
      generalize Lib.decDigits c = ds at *
      obtain ⟨D, hD⟩ : ∃ D : ByteArray, (⟨ds.toArray⟩ : ByteArray) = D := ⟨_, rfl⟩
      rw [hD] at hit
      have hD2 : Aside (D = ⟨ds.toArray⟩) := hD.symm
      clear hD
      clear e1 e2
      have hUs : U.size = 1 := by rw [hU2.out]; rfl
      have hDs : D.size = ds.length := by rw [hD2.out]; rfl
      obtain ⟨V1, hV1⟩ : ∃ V : ByteArray, V = U ++ D := ⟨_, rfl⟩
      obtain ⟨V2, hV2⟩ : ∃ V : ByteArray, V = V1 ++ ⟨#[10]⟩ := ⟨_, rfl⟩
      have hV1s : V1.size = 1 + ds.length := by rw [hV1, ByteArray.size_append, hUs, hDs]
      have hV2s : V2.size = 1 + ds.length + 1 := by rw [hV2, ByteArray.size_append, hV1s]; rfl
      have ha1 : ∀ w, (Op.stringOp .add U D).run Tryd.prog w = .ok (.string V1) w := fun w => by rw [hV1]; exact run_string_add_sum w _ _ (by omega)
      have ha2 : ∀ w, (Op.stringOp .add V1 ⟨#[10]⟩).run Tryd.prog w = .ok (.string V2) w := fun w => by rw [hV2]; exact run_string_add_sum w _ _ (by rw [hV1s]; show 1 + ds.length + 1 ≤ _; omega)
      have hV : Aside (V1 = U ++ D ∧ V2 = V1 ++ ⟨#[10]⟩) := ⟨hV1, hV2⟩
      have hwr := write_walk C b l V2 w.drew hb.drew (by rw [hV2s]; omega) hC
      clear hV1 hV2 hV1s hV2s hUs hDs
      go_enter Tryd.func29, Tryd.ntmps29
      go_wp2_with fail
      go_region_with (first | (go_at_call 30; refine (hit _).mono ?_; rintro e w1 ⟨rfl, rfl⟩) | (go_at_call 22; go_loud (refine hwr.mono ?_; rintro e w1 ⟨rfl, hb1, hk1⟩)))
      all_goals
        have q1 : w1.heap[br]? = some (.cells #[.int .u8 rv] 5 (0, 0)) := (hk1.block br hrC hrb (show br < w.heap.size by omega)).trans hbr
        have q2 : w1.heap[bc]? = some (.cells #[.int .i64 c] 3 (0, 0)) := (hk1.block bc hcC hcb (show bc < w.heap.size by omega)).trans hbc
        have d2 : w1.cell? ⟨bc, 0, none⟩ = some (.int .i64 c) := by rw [Lib.cell_of_heap q2]; rfl
        have g2 : w1.frozen? ⟨bc, 0, none⟩ = false := Lib.frozen_of_heap q2 0
        have q3 : ∀ x, (w1.setCell ⟨bc, 0, none⟩ x).heap[br]? = some (.cells #[.int .u8 rv] 5 (0, 0)) := fun x => (heap_other x hrc).trans q1
        have d3 : ∀ x, (w1.setCell ⟨bc, 0, none⟩ x).cell? ⟨br, 0, none⟩ = some (.int .u8 rv) := fun x => by rw [Lib.cell_of_heap (q3 x)]; rfl
        have g3 : ∀ x, (w1.setCell ⟨bc, 0, none⟩ x).frozen? ⟨br, 0, none⟩ = false := fun x => Lib.frozen_of_heap (q3 x) 0
        have hfin : Bld C b (l ++ UInt8.ofNat rv :: (ds ++ [10])) w1 := by
          have e : V2.data.toList = UInt8.ofNat rv :: (ds ++ [10]) := by
            rw [hV.out.2, hV.out.1, hU2.out, hD2.out]
            simp [ByteArray.data_append]
          rw [← e]
          exact hb1
        clear hb1 hV hU2 hD2
        go_wp2
        go_end0
        exact ⟨rfl, (hfin.set hcC hcb _).set hrC hrb _, heap_set _ (q3 _), by rw [heap_other _ (fun e => hrc e.symm)]; exact heap_set _ q2, hk1.os, hk1.tape, hk1.output, by simpa [World.setCell] using hk1.size, fun k hkC hkb hkr hkc hkw => by rw [heap_other _ hkr, heap_other _ hkc]; exact hk1.block k hkC hkb hkw⟩
end Go.Proofs.YtimkclpogbfciaaDoor.W
