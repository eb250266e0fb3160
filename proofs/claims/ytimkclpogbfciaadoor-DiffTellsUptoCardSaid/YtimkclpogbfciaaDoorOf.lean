/- diff.Of, walked: what it tells of two texts, as a plain function of their lines. No conditions but that numbers are small. -/
import Derived.Test.YtimkclpogbfciaaDoorLong
import Derived.Test.YtimkclpogbfciaaDoorLin
import Derived.Test.YtimkclpogbfciaaDoorNxt
namespace Go.Proofs.YtimkclpogbfciaaDoor.W
open Go Go.RowKit Go.Shelf
set_option linter.unusedVariables false
set_option linter.unusedSimpArgs false

/-- An added line, as it is told. -/
def addL (y : ByteArray) : List UInt8 := 43 :: (Lib.decDigits y.size ++ 58 :: (y.data.toList ++ [10]))
/-- What is told from two places on. m: how many lines are left of both. -/
def ofGo (X Y : Nat → ByteArray) (A B : Nat) : Nat → Nat → Nat → Nat → Nat → List UInt8
  | 0, i, j, rv, c => nextL rv c 0
  | m + 1, i, j, rv, c =>
    if i < A ∧ j < B ∧ ((X i).toList == (Y j).toList) = true then nextL rv c 61 ++ ofGo X Y A B m (i + 1) (j + 1) 61 (nextC rv c 61 + 1)
    else if i < A ∧ (j = B ∨ tabL X Y A B i (j + 1) ≤ tabL X Y A B (i + 1) j) then nextL rv c 45 ++ ofGo X Y A B m (i + 1) j 45 (nextC rv c 45 + 1)
    else if j < B then nextL rv c 43 ++ (addL (Y j) ++ ofGo X Y A B m i (j + 1) 43 (nextC rv c 43))
    else nextL rv c 0
def ofL (xs ys : List ByteArray) : List UInt8 := ofGo (fun i => xs.getD i ByteArray.empty) (fun i => ys.getD i ByteArray.empty) xs.length ys.length (xs.length + ys.length) 0 0 0 0

theorem linesB_le (s : ByteArray) : (linesB s).length ≤ (piecesB s).length := by
  unfold linesB
  split
  · rw [List.length_dropLast]; omega
  · exact Nat.le_refl _
theorem linesB_get (s : ByteArray) (i : Nat) (h : i < (linesB s).length) : (piecesB s)[i]? = some ((linesB s).getD i ByteArray.empty) := by
  have e : (linesB s)[i]? = (piecesB s)[i]? := by
    unfold linesB at h ⊢
    split
    · rename_i h2
      rw [if_pos h2, List.length_dropLast] at h
      rw [List.dropLast_eq_take, List.getElem?_take_of_lt h]
    · rfl
  rw [← e, List.getD_eq_getElem?_getD, List.getElem?_eq_getElem h]
  rfl
theorem lines_cell (s : ByteArray) (w : World) (i : Nat) (h : i < (linesB s).length) :
    (w.alloc (.cells (Lib.cellsOf (piecesB s) (Lib.countB s nl + 1)) 9)).cell? ⟨w.heap.size, i, none⟩ = some (.string ((linesB s).getD i ByteArray.empty)) := by
  simp only [World.cell?]
  rw [(MapKept.heap_alloc w (.cells _ 9)).1]
  have := linesB_get s i h
  have hl := linesB_le s
  simp only [Lib.cellsOf, List.getElem?_toArray]
  rw [List.getElem?_append_left (by rw [List.length_map]; omega), List.getElem?_map, this]
  rfl

/-- What the loop keeps of the world that it began in. -/
structure KeptO (C b br bc : Nat) (w w' : World) : Prop where
  os : w'.os = w.os
  tape : w'.tape = w.tape
  output : w'.output = w.output
  size : w.heap.size ≤ w'.heap.size
  block : ∀ k, k < C → k ≠ b → k ≠ br → k ≠ bc → k < w.heap.size → w'.heap[k]? = w.heap[k]?
theorem KeptO.refl (C b br bc : Nat) (w : World) : KeptO C b br bc w w := ⟨rfl, rfl, rfl, Nat.le_refl _, fun _ _ _ _ _ _ => rfl⟩
theorem KeptO.cell {C b br bc : Nat} {w w' : World} (h : KeptO C b br bc w w') {k o : Nat} (h1 : k < C) (h2 : k ≠ b) (h3 : k ≠ br) (h4 : k ≠ bc) (h5 : k < w.heap.size) : w'.cell? ⟨k, o, none⟩ = w.cell? ⟨k, o, none⟩ := by
  simp only [World.cell?, h.block k h1 h2 h3 h4 h5]

theorem dec_le {c : Nat} (h : c < 100) : (Lib.decDigits c).length ≤ 2 := by
  by_cases h10 : c < 10
  · rw [Lib.decDigits_one h10]; simp
  · rw [Lib.decDigits_two (by omega) h]; simp
theorem nextL_le {rv c kv : Nat} (h : c < 100) : (nextL rv c kv).length ≤ 4 := by
  have := dec_le h
  unfold nextL runL
  split
  · simp; omega
  · simp
theorem nextC_le (rv c kv : Nat) : nextC rv c kv ≤ c := by
  unfold nextC
  split <;> omega
theorem addL_le {y : ByteArray} (h : y.size < 100) : (addL y).length ≤ 104 := by
  have := dec_le h
  unfold addL
  have e : y.data.toList.length = y.size := by simp
  simp only [List.length_cons, List.length_append, List.length_nil, e]
  omega

/-- Where the loop stands: g rounds at most are left. -/
structure OfSt (C b br bc A B : Nat) (X Y : Nat → ByteArray) (W wr : World) (g i j rv c : Nat) (l full : List UInt8) : Prop where
  hi : i ≤ A
  hj : j ≤ B
  hg : (A - i) + (B - j) ≤ g
  hrv : rv < 128
  hc : c ≤ i
  hl : l.length + 110 * g ≤ 110 * (A + B)
  bld : Bld C b l wr
  run : wr.heap[br]? = some (.cells #[.int .u8 rv] 5 (0, 0))
  cnt : wr.heap[bc]? = some (.cells #[.int .i64 c] 3 (0, 0))
  kept : KeptO C b br bc W wr
  tell : l ++ ofGo X Y A B g i j rv c = full

theorem KeptO.drew {C b br bc : Nat} {w w' : World} (h : KeptO C b br bc w w') : KeptO C b br bc w w'.drew := ⟨h.os, h.tape, h.output, h.size, h.block⟩
theorem OfSt.drew {C b br bc A B : Nat} {X Y : Nat → ByteArray} {W wr : World} {g i j rv c : Nat} {l full : List UInt8} (h : OfSt C b br bc A B X Y W wr g i j rv c l full) : OfSt C b br bc A B X Y W wr.drew g i j rv c l full :=
  ⟨h.hi, h.hj, h.hg, h.hrv, h.hc, h.hl, h.bld.drew, h.run, h.cnt, h.kept.drew, h.tell⟩

/-- Behind a call of the inner function. -/
structure OfMid (C b br bc : Nat) (W w : World) (kv c : Nat) (l : List UInt8) : Prop where
  bld : Bld C b l w
  run : w.heap[br]? = some (.cells #[.int .u8 kv] 5 (0, 0))
  cnt : w.heap[bc]? = some (.cells #[.int .i64 c] 3 (0, 0))
  kept : KeptO C b br bc W w

theorem of_next {n A B : Nat} {X Y : Nat → ByteArray} {W wr : World} {g i j rv c : Nat} {l full : List UInt8} (h : OfSt (n + 3) n (n + 1) (n + 1 + 1) A B X Y W wr g i j rv c l full) (hW : W.heap.size = n + 3) (hA : A < 100) (hB : B < 100) (kv : Nat) (hkv : kv < 128) :
    Calls Tryd.prog 29 #[.int .u8 kv, .pointer (some ⟨n + 1, 0, none⟩), .pointer (some ⟨n + 1 + 1, 0, none⟩), .pointer (some ⟨n, 0, none⟩)] wr fun e w' => e = .returned (.tuple #[]) ∧ OfMid (n + 3) n (n + 1) (n + 1 + 1) W w' kv (nextC rv c kv) (l ++ nextL rv c kv) := by
  refine (next_walk (n + 3) n (n + 1) (n + 1 + 1) rv c kv l wr h.bld h.run h.cnt (by omega) (by omega) (by omega) (by omega) (by omega) (by have := h.kept.size; omega) (by have := h.hc; have := h.hi; omega) h.hrv hkv (by have := h.hl; omega)).mono ?_
  rintro e w' ⟨rfl, h1, h2, h3, h4, h5, h6, h7, h8⟩
  exact ⟨rfl, h1, h2, h3, ⟨h4.trans h.kept.os, h5.trans h.kept.tape, h6.trans h.kept.output, Nat.le_trans h.kept.size h7, fun k k1 k2 k3 k4 k5 => (h8 k k1 k2 k3 k4 (by have := h.kept.size; omega)).trans (h.kept.block k k1 k2 k3 k4 k5)⟩⟩

theorem OfMid.cell {C b br bc : Nat} {W w : World} {kv c : Nat} {l : List UInt8} (h : OfMid C b br bc W w kv c l) : w.cell? ⟨bc, 0, none⟩ = some (.int .i64 c) := by rw [Lib.cell_of_heap h.cnt]; rfl
theorem OfMid.frozen {C b br bc : Nat} {W w : World} {kv c : Nat} {l : List UInt8} (h : OfMid C b br bc W w kv c l) : w.frozen? ⟨bc, 0, none⟩ = false := Lib.frozen_of_heap h.cnt 0
theorem OfMid.count {C b br bc : Nat} {W w : World} {kv c : Nat} {l : List UInt8} (h : OfMid C b br bc W w kv c l) (h1 : bc < C) (h2 : bc ≠ b) (h3 : br ≠ bc) (c' : Nat) : OfMid C b br bc W (w.setCell ⟨bc, 0, none⟩ (.int .i64 c')) kv c' l :=
  ⟨h.bld.set h1 h2 _, (heap_other _ h3).trans h.run, heap_set _ h.cnt, ⟨h.kept.os, h.kept.tape, h.kept.output, by simpa [World.setCell] using h.kept.size, fun k k1 k2 k3 k4 k5 => (heap_other _ k4).trans (h.kept.block k k1 k2 k3 k4 k5)⟩⟩
theorem OfMid.count2 {C b br bc : Nat} {W w : World} {kv c : Nat} {l : List UInt8} (h : OfMid C b br bc W w kv c l) (h1 : bc < C) (h2 : bc ≠ b) (h3 : br ≠ bc) (c' : Nat) (z : Int) (hz : z = (c' : Int)) : OfMid C b br bc W (w.setCell ⟨bc, 0, none⟩ (.int .i64 z)) kv c' l := by
  subst hz
  exact h.count h1 h2 h3 c'
theorem OfMid.drew {C b br bc : Nat} {W w : World} {kv c : Nat} {l : List UInt8} (h : OfMid C b br bc W w kv c l) : OfMid C b br bc W w.drew kv c l := ⟨h.bld.drew, h.run, h.cnt, h.kept.drew⟩
theorem of_add {n kv c : Nat} {W w : World} {l : List UInt8} (h : OfMid (n + 3) n (n + 1) (n + 1 + 1) W w kv c l) (hW : n + 3 ≤ W.heap.size) (V y : ByteArray) (hV : V.data.toList = addL y) (hy : y.size < 100) (hl : l.length ≤ 30000) :
    Calls Tryd.prog 22 #[.pointer (some ⟨n, 0, none⟩), .string V] w fun e w' => e = .returned (.tuple #[.int .i64 V.size, .nilIface]) ∧ OfMid (n + 3) n (n + 1) (n + 1 + 1) W w' kv c (l ++ addL y) := by
  have hs : V.size ≤ 104 := by
    have h1 : V.data.toList.length = V.size := by simp
    rw [hV] at h1
    have := addL_le hy
    omega
  have hw := h.kept.size
  refine (write_walk (n + 3) n l V w h.bld (by omega) (by omega)).mono ?_
  rintro e w' ⟨rfl, h1, h2⟩
  rw [hV] at h1
  exact ⟨rfl, h1, (h2.block (n + 1) (by omega) (by omega) (by omega)).trans h.run, (h2.block (n + 1 + 1) (by omega) (by omega) (by omega)).trans h.cnt,
    ⟨h2.os.trans h.kept.os, h2.tape.trans h.kept.tape, h2.output.trans h.kept.output, Nat.le_trans h.kept.size h2.size, fun k k1 k2 k3 k4 k5 => (h2.block k k1 k2 (by omega)).trans (h.kept.block k k1 k2 k3 k4 k5)⟩⟩
theorem OfMid.st {C b br bc A B : Nat} {X Y : Nat → ByteArray} {W w : World} {kv c g i j : Nat} {l full : List UInt8} (h : OfMid C b br bc W w kv c l) (hi : i ≤ A) (hj : j ≤ B) (hg : (A - i) + (B - j) ≤ g) (hrv : kv < 128) (hc : c ≤ i) (hl : l.length + 110 * g ≤ 110 * (A + B)) (ht : l ++ ofGo X Y A B g i j kv c = full) : OfSt C b br bc A B X Y W w g i j kv c l full :=
  ⟨hi, hj, hg, hrv, hc, hl, h.bld, h.run, h.cnt, h.kept, ht⟩

theorem Bld.is {C b : Nat} {l : List UInt8} {w : World} (h : Bld C b l w) : Lib.IsBuilderF 44 5 b b (Lib.byteCells l) w := by
  obtain ⟨p, v, hp, hb, hbk, hown⟩ := h
  have hne := Bld.row (b := b) hown hb
  have hown2 : w.ownsRowF b 5 1 v (Lib.byteCells l).length (Lib.byteCells l) := by
    rw [Lib.byteCells_length]
    refine ⟨hown.1, ?_⟩
    rcases hown.2 with h | ⟨g, cap, cur, fz, h1, h2, h3⟩
    · exact .inl h
    · exact .inr ⟨g, cap, cur, fz, h1, by omega, h3⟩
  rcases hp with rfl | rfl
  · exact .inl ⟨Nat.le_refl _, v, hbk, hown2, hne⟩
  · exact .inr ⟨Nat.le_refl _, v, hbk, hown2, hne⟩
theorem str_walk {C b : Nat} {l : List UInt8} {w : World} (h : Bld C b l w) (hw : b ≤ w.heap.size) : Calls Tryd.prog 25 #[.pointer (some ⟨b, 0, none⟩)] w fun e w' => e = .returned (.string ⟨l.toArray⟩) ∧ Below b w w' :=
  (Tryd.Builder_String_any_f b b l w h.is hw).mono fun e w' h => ⟨h.1, h.2.2⟩

set_option maxHeartbeats 12000000 in
set_option maxRecDepth 1000000 in
theorem of_walk (s t : ByteArray) (w : World) (hs : s.size < 4294967281) (ht : t.size < 4294967281) (hA : (linesB s).length < 100) (hB : (linesB t).length < 100) (hY : ∀ i, i < (linesB t).length → ((linesB t).getD i ByteArray.empty).size < 100) :
    Calls Tryd.prog 12 #[.string s, .string t] w fun e w' => e = .returned (.string ⟨(ofL (linesB s) (linesB t)).toArray⟩) ∧ Below w.heap.size w w' := by
  have hl1 := lines_walk s w hs
  have hX := lines_cell s w
  have hl2 := lines_walk t (w.alloc (.cells (Lib.cellsOf (piecesB s) (Lib.countB s nl + 1)) 9)) ht
  have hYc := lines_cell t (w.alloc (.cells (Lib.cellsOf (piecesB s) (Lib.countB s nl + 1)) 9))
  unfold ofL
  generalize (Obj.cells (Lib.cellsOf (piecesB s) (Lib.countB s nl + 1)) 9) = o1 at *
  generalize (Obj.cells (Lib.cellsOf (piecesB t) (Lib.countB t nl + 1)) 9) = o2 at *
  have hX' : ∀ i, i < (linesB s).length → ((w.alloc o1).alloc o2).cell? ⟨w.heap.size, 0 + i, none⟩ = some (.string ((linesB s).getD i ByteArray.empty)) := fun i hi => by
    rw [Nat.zero_add, World.cell?_alloc_old _ _ _ (by simp), hX i hi]
  have hY' : ∀ i, i < (linesB t).length → ((w.alloc o1).alloc o2).cell? ⟨w.heap.size + 1, 0 + i, none⟩ = some (.string ((linesB t).getD i ByteArray.empty)) := fun i hi => by
    have := hYc i hi
    rw [Nat.zero_add]
    simpa using this
  generalize hgx : (fun i => (linesB s).getD i ByteArray.empty) = X at *
  generalize hgy : (fun i => (linesB t).getD i ByteArray.empty) = Y at *
  have hX2 : ∀ i, i < (linesB s).length → ((w.alloc o1).alloc o2).cell? ⟨w.heap.size, 0 + i, none⟩ = some (.string (X i)) := fun i hi => by rw [← hgx]; exact hX' i hi
  have hY2 : ∀ i, i < (linesB t).length → ((w.alloc o1).alloc o2).cell? ⟨w.heap.size + 1, 0 + i, none⟩ = some (.string (Y i)) := fun i hi => by rw [← hgy]; exact hY' i hi
  have hY3 : ∀ i, i < (linesB t).length → (Y i).size < 100 := fun i hi => by rw [← hgy]; exact hY i hi
  clear hX hYc hX' hY' hY hgx hgy
  generalize (linesB s).length = A at *
  generalize (linesB t).length = B at *
  obtain ⟨G, hG⟩ : ∃ G : Nat, (A : Int) + 1 = (G : Int) := ⟨A + 1, by simp⟩
  obtain ⟨H, hH⟩ : ∃ G : Nat, (B : Int) + 1 = (G : Int) := ⟨B + 1, by simp⟩
  have hlo := longest_walk (some ⟨w.heap.size, 0, none⟩) (some ⟨w.heap.size + 1, 0, none⟩) w.heap.size 0 (w.heap.size + 1) 0 A B G H A B X Y ((w.alloc o1).alloc o2) (fun _ => rfl) (fun _ => rfl) (by omega) (by omega) hG hH hX2 hY2
  have hsz2 : ((w.alloc o1).alloc o2).heap.size = w.heap.size + 2 := by simp
  have hsz1 : (w.alloc o1).heap.size = w.heap.size + 1 := by simp
  rw [hsz1] at hl2
  rw [hsz2] at hlo
  go_enter Tryd.func12, Tryd.ntmps12
  go_wp2_with (first | (go_at_call_of 10 s; refine hl1.mono ?_; rintro e w1 ⟨rfl, hw⟩; rw [hw]; clear hw) | (go_at_call_of 10 t; refine hl2.mono ?_; rintro e w1 ⟨rfl, hw⟩; rw [hw]; clear hw) | (go_at_call 28; refine hlo.mono ?_; rintro e w3 ⟨rfl, hM⟩))
  have hGA : G = A + 1 := by omega
  have hHB : H = B + 1 := by omega
  have hn3 := hM.size
  rw [hsz2] at hn3
  have hX3 : ∀ i, i < A → w3.cell? ⟨w.heap.size, i, none⟩ = some (.string (X i)) := fun i hi => by
    have := hX2 i hi
    rw [Nat.zero_add] at this
    rw [hM.since.cell (a := ⟨w.heap.size, i, none⟩) (by rw [hsz2]; show w.heap.size < _; omega)]
    exact this
  have hY3c : ∀ i, i < B → w3.cell? ⟨w.heap.size + 1, i, none⟩ = some (.string (Y i)) := fun i hi => by
    have := hY2 i hi
    rw [Nat.zero_add] at this
    rw [hM.since.cell (a := ⟨w.heap.size + 1, i, none⟩) (by rw [hsz2]; show w.heap.size + 1 < _; omega)]
    exact this
  have hT3 : ∀ a, a < G → w3.cell? ⟨w.heap.size + 2, a, none⟩ = some (.slice (some ⟨w.heap.size + 2 + 1 + a, 0, none⟩) H H) := fun a ha => by
    have := hM.top.cell (i := a) ha
    rw [hsz2] at this
    rw [this]; simp [topv, ha]
  have hR3 : ∀ a c, a < G → c < H → w3.cell? ⟨w.heap.size + 2 + 1 + a, c, none⟩ = some (.int .i64 (tabL X Y A B a c)) := fun a c ha hc => by
    have := (hM.done a ha).cell (i := c) hc
    rw [hsz2] at this
    exact this
  have hbel2 : Below w.heap.size w ((w.alloc o1).alloc o2) := (((Below.refl _ _).alloc (Nat.le_refl _) _).alloc (by simp) _)
  have hbel3 : Below w.heap.size w w3 := ⟨hM.since.os.trans hbel2.os, hM.since.tape.trans hbel2.tape, hM.since.output.trans hbel2.output, by omega, fun k hk => (hM.since.block k (by rw [hsz2]; omega)).trans (hbel2.block k hk)⟩
  clear hlo hl1 hl2 hX2 hY2 hsz1 hM
  generalize hN3 : w3.heap.size = n3 at *
  have h8 : w.heap.size + 2 + 1 + G = n3 := hn3.symm
  obtain ⟨W, hW⟩ : ∃ W, W = ((w3.alloc (.cells #[.pointer none, .slice none 0 0] 44)).alloc (.cells #[.int .u8 0] 5)).alloc (.cells #[.int .i64 0] 3) := ⟨_, rfl⟩
  rw [← hW]
  have hWs : W.heap.size = n3 + 3 := by rw [hW]; simp [hN3]
  have hWo : ∀ k o, k < n3 → W.cell? ⟨k, o, none⟩ = w3.cell? ⟨k, o, none⟩ := fun k o hk => by
    rw [hW, World.cell?_alloc_old _ _ _ (by simp [hN3]; omega), World.cell?_alloc_old _ _ _ (by simp [hN3]; omega), World.cell?_alloc_old _ _ _ (by simp [hN3]; omega)]
  have hWb : W.heap[n3]? = some (.cells #[.pointer none, .slice none 0 0] 44 (0, 0)) := by
    rw [hW, Below.heap_alloc _ _ _ (by simp [hN3]; omega), Below.heap_alloc _ _ _ (by simp [hN3]), ← hN3]
    exact (MapKept.heap_alloc w3 (.cells _ 44)).1
  have hWr : W.heap[n3 + 1]? = some (.cells #[.int .u8 0] 5 (0, 0)) := by
    rw [hW, Below.heap_alloc _ _ _ (by simp [hN3])]
    have := (MapKept.heap_alloc (w3.alloc (.cells #[.pointer none, .slice none 0 0] 44)) (.cells #[.int .u8 0] 5)).1
    simpa [hN3] using this
  have hWc : W.heap[n3 + 1 + 1]? = some (.cells #[.int .i64 0] 3 (0, 0)) := by
    rw [hW]
    have := (MapKept.heap_alloc ((w3.alloc (.cells #[.pointer none, .slice none 0 0] 44)).alloc (.cells #[.int .u8 0] 5)) (.cells #[.int .i64 0] 3)).1
    simpa [hN3] using this
  have hX4 : ∀ i, i < A → W.cell? ⟨w.heap.size, i, none⟩ = some (.string (X i)) := fun i hi => (hWo _ _ (by omega)).trans (hX3 i hi)
  have hY4 : ∀ i, i < B → W.cell? ⟨w.heap.size + 1, i, none⟩ = some (.string (Y i)) := fun i hi => (hWo _ _ (by omega)).trans (hY3c i hi)
  have hT4 : ∀ a, a < G → W.cell? ⟨w.heap.size + 2, a, none⟩ = some (.slice (some ⟨w.heap.size + 2 + 1 + a, 0, none⟩) H H) := fun a ha => (hWo _ _ (by omega)).trans (hT3 a ha)
  have hR4 : ∀ a c, a < G → c < H → W.cell? ⟨w.heap.size + 2 + 1 + a, c, none⟩ = some (.int .i64 (tabL X Y A B a c)) := fun a c ha hc => (hWo _ _ (by omega)).trans (hR3 a c ha hc)
  have hbelW : Below w.heap.size w W := by
    rw [hW]
    exact ((hbel3.alloc (by rw [hN3]; omega) _).alloc (by simp [hN3]; omega) _).alloc (by simp [hN3]; omega) _
  have hst : OfSt (n3 + 3) n3 (n3 + 1) (n3 + 1 + 1) A B X Y W W (A + B) 0 0 0 0 [] (ofGo X Y A B (A + B) 0 0 0 0) :=
    ⟨Nat.zero_le _, Nat.zero_le _, by omega, by decide, Nat.le_refl _, by simp, ⟨_, _, .inl rfl, by omega, hWb, World.ownsRowF_of (World.ownsRow_nil _ _ _ _)⟩, hWr, hWc, KeptO.refl _ _ _ _ _, rfl⟩
  clear hX3 hY3c hT3 hR3 hWo hWb hWr hWc hbel3 hbel2
  clear hW
  generalize hfull : ofGo X Y A B (A + B) 0 0 0 0 = full at hst
  have HF : Aside (ofGo X Y A B (A + B) 0 0 0 0 = full) := hfull
  clear hfull
  have hnle : w.heap.size + 2 + 1 + G ≤ n3 := by omega
  have hGle : A + 1 ≤ G := by omega
  have hHle : B + 1 ≤ H := by omega
  clear hn3 h8 hGA hHB hN3
  go_loopg [12, 13] (A + B) (fun g s12 s13 wr => ∃ (i j rv c : Nat) (l : List UInt8), s12 = .int .i64 i ∧ s13 = .int .i64 j ∧ OfSt (n3 + 3) n3 (n3 + 1) (n3 + 1 + 1) A B X Y W wr g i j rv c l full)
  case atStart => exact ⟨0, 0, 0, 0, [], rfl, rfl, hst⟩
  case round =>
    obtain ⟨i, j, rv, c, l, rfl, rfl, hS⟩ := hrel
    clear hst
    by_cases hij : i < A ∨ j < B
    · have hWs3 : n3 + 3 ≤ W.heap.size := by omega
      have hcA : c < 100 := by have := hS.hc; have := hS.hi; omega
      have hgS := hS.hg
      have hiA := hS.hi
      have hjB := hS.hj
      by_cases hi : i < A
      · have hiz : (i : Int) < (A : Int) := by omega
        have x1 : wr.cell? ⟨w.heap.size, i, none⟩ = some (.string (X i)) := (hS.kept.cell (by omega) (by omega) (by omega) (by omega) (by omega)).trans (hX4 i hi)
        by_cases hj : j < B
        · have hjz : (j : Int) < (B : Int) := by omega
          have y1 : wr.cell? ⟨w.heap.size + 1, j, none⟩ = some (.string (Y j)) := (hS.kept.cell (by omega) (by omega) (by omega) (by omega) (by omega)).trans (hY4 j hj)
          cases heq : ((X i).toList == (Y j).toList) with
          | true =>
            have hnx : Calls Tryd.prog 29 #[.int .u8 61, .pointer (some ⟨n3 + 1, 0, none⟩), .pointer (some ⟨n3 + 1 + 1, 0, none⟩), .pointer (some ⟨n3, 0, none⟩)] wr.drew fun e w' => e = .returned (.tuple #[]) ∧ OfMid (n3 + 3) n3 (n3 + 1) (n3 + 1 + 1) W w' 61 (nextC rv c 61) (l ++ nextL rv c 61) := of_next hS.drew hWs hA hB 61 (by decide)
            obtain ⟨m, hm⟩ : ∃ m, gk = m + 1 := ⟨gk - 1, by omega⟩
            have htell : (l ++ nextL rv c 61) ++ ofGo X Y A B m (i + 1) (j + 1) 61 (nextC rv c 61 + 1) = full := by
              rw [← hS.tell, hm, List.append_assoc]
              conv => rhs; unfold ofGo
              rw [if_pos ⟨hi, hj, heq⟩]
            have hlen : (l ++ nextL rv c 61).length + 110 * m ≤ 110 * (A + B) := by
              have h1 := hS.hl; have h2 := nextL_le (rv := rv) (kv := 61) hcA
              rw [List.length_append]; omega
            have hc5 := nextC_le rv c 61
            have hci := hS.hc
            generalize nextC rv c 61 = c5 at *
            generalize l ++ nextL rv c 61 = l5 at *
            have HT : Aside ((l5) ++ ofGo X Y A B m (i + 1) (j + 1) 61 (c5 + 1) = full ∧ (l5).length + 110 * m ≤ 110 * (A + B) ∧ (A - i) + (B - j) ≤ gk ∧ gk = m + 1) := ⟨htell, hlen, hgS, hm⟩
            have hc5b : (c5 : Int) ≤ 100 := by omega
            clear htell hlen hgS hm hS HF hX4 hY4 hT4 hR4
            go_wp2_with fail
            go_region
            go_wp2_with (first | (go_at_call 29; refine hnx.mono ?_; rintro e w5 ⟨rfl, hmid⟩; have d5 := hmid.cell; have f5 := hmid.frozen))
            go_roundg m
            case measure => go_light; have := HT.out.2.2.2; omega
            case rel =>
              go_light
              obtain ⟨h1, h2, h3, h4⟩ := HT.out
              exact ⟨(i + 1), (j + 1), 61, c5 + 1, l5, by simp, by simp, (hmid.count2 (by omega) (by omega) (by omega) (c5 + 1) _ (by simp)).st (by omega) (by omega) (by omega) (by decide) (by omega) h2 h1⟩
          | false =>
            have t1 : wr.cell? ⟨w.heap.size + 2, i + 1, none⟩ = some (.slice (some ⟨w.heap.size + 2 + 1 + (i + 1), 0, none⟩) H H) := (hS.kept.cell (by omega) (by omega) (by omega) (by omega) (by omega)).trans (hT4 (i + 1) (by omega))
            have t2 : wr.cell? ⟨w.heap.size + 2, i, none⟩ = some (.slice (some ⟨w.heap.size + 2 + 1 + i, 0, none⟩) H H) := (hS.kept.cell (by omega) (by omega) (by omega) (by omega) (by omega)).trans (hT4 i (by omega))
            have t3 : wr.cell? ⟨w.heap.size + 2 + 1 + (i + 1), j, none⟩ = some (.int .i64 (tabL X Y A B (i + 1) j)) := (hS.kept.cell (by omega) (by omega) (by omega) (by omega) (by omega)).trans (hR4 (i + 1) j (by omega) (by omega))
            have t4 : wr.cell? ⟨w.heap.size + 2 + 1 + i, j + 1, none⟩ = some (.int .i64 (tabL X Y A B i (j + 1))) := (hS.kept.cell (by omega) (by omega) (by omega) (by omega) (by omega)).trans (hR4 i (j + 1) (by omega) (by omega))
            have hGi : (i : Int) + 1 < (G : Int) := by omega
            have hGi2 : (i : Int) < (G : Int) := by omega
            have hHj : (j : Int) + 1 < (H : Int) := by omega
            have hHj2 : (j : Int) < (H : Int) := by omega
            have hjne : ((j : Int) == (B : Int)) = false := by simp; omega
            by_cases hv : tabL X Y A B i (j + 1) ≤ tabL X Y A B (i + 1) j
            · have hnx : Calls Tryd.prog 29 #[.int .u8 45, .pointer (some ⟨n3 + 1, 0, none⟩), .pointer (some ⟨n3 + 1 + 1, 0, none⟩), .pointer (some ⟨n3, 0, none⟩)] wr.drew.drew fun e w' => e = .returned (.tuple #[]) ∧ OfMid (n3 + 3) n3 (n3 + 1) (n3 + 1 + 1) W w' 45 (nextC rv c 45) (l ++ nextL rv c 45) := of_next hS.drew.drew hWs hA hB 45 (by decide)
              obtain ⟨m, hm⟩ : ∃ m, gk = m + 1 := ⟨gk - 1, by omega⟩
              have htell : (l ++ nextL rv c 45) ++ ofGo X Y A B m (i + 1) j 45 (nextC rv c 45 + 1) = full := by
                rw [← hS.tell, hm, List.append_assoc]
                conv => rhs; unfold ofGo
                rw [if_neg (by rw [heq]; simp), if_pos ⟨hi, .inr hv⟩]
              have hlen : (l ++ nextL rv c 45).length + 110 * m ≤ 110 * (A + B) := by
                have h1 := hS.hl; have h2 := nextL_le (rv := rv) (kv := 45) hcA
                rw [List.length_append]; omega
              have hc5 := nextC_le rv c 45
              have hci := hS.hc
              generalize nextC rv c 45 = c5 at *
              generalize l ++ nextL rv c 45 = l5 at *
              have HT : Aside ((l5) ++ ofGo X Y A B m (i + 1) j 45 (c5 + 1) = full ∧ (l5).length + 110 * m ≤ 110 * (A + B) ∧ (A - i) + (B - j) ≤ gk ∧ gk = m + 1) := ⟨htell, hlen, hgS, hm⟩
              have hc5b : (c5 : Int) ≤ 100 := by omega
              clear htell hlen hgS hm hS HF hX4 hY4 hT4 hR4
              generalize tabL X Y A B (i + 1) j = v1 at t3 hv
              generalize tabL X Y A B i (j + 1) = v2 at t4 hv
              go_wp2_with fail
              go_region
              go_wp2_with fail
              go_region
              go_wp2_with (first | (go_at_call 29; refine hnx.mono ?_; rintro e w5 ⟨rfl, hmid⟩; have d5 := hmid.cell; have f5 := hmid.frozen))
              go_roundg m
              case measure => go_light; have := HT.out.2.2.2; omega
              case rel =>
                go_light
                obtain ⟨h1, h2, h3, h4⟩ := HT.out
                exact ⟨(i + 1), j, 45, c5 + 1, l5, by simp, by simp, (hmid.count2 (by omega) (by omega) (by omega) (c5 + 1) _ (by simp)).st (by omega) (by omega) (by omega) (by decide) (by omega) h2 h1⟩
            · have hnx : Calls Tryd.prog 29 #[.int .u8 43, .pointer (some ⟨n3 + 1, 0, none⟩), .pointer (some ⟨n3 + 1 + 1, 0, none⟩), .pointer (some ⟨n3, 0, none⟩)] wr.drew.drew fun e w' => e = .returned (.tuple #[]) ∧ OfMid (n3 + 3) n3 (n3 + 1) (n3 + 1 + 1) W w' 43 (nextC rv c 43) (l ++ nextL rv c 43) := of_next hS.drew.drew hWs hA hB 43 (by decide)
              obtain ⟨m, hm⟩ : ∃ m, gk = m + 1 := ⟨gk - 1, by omega⟩
              have htell : ((l ++ nextL rv c 43) ++ addL (Y j)) ++ ofGo X Y A B m i (j + 1) 43 (nextC rv c 43) = full := by
                rw [← hS.tell, hm, List.append_assoc, List.append_assoc]
                conv => rhs; unfold ofGo
                rw [if_neg (by rw [heq]; simp), if_neg (by rintro ⟨_, h | h⟩; exact absurd h (by omega); exact hv h), if_pos hj]
              have hlen : ((l ++ nextL rv c 43) ++ addL (Y j)).length + 110 * m ≤ 110 * (A + B) := by
                have h1 := hS.hl; have h2 := nextL_le (rv := rv) (kv := 43) hcA; have h3 := addL_le (hY3 j hj)
                rw [List.length_append, List.length_append]; omega
              have hlen2 : (l ++ nextL rv c 43).length ≤ 30000 := by rw [List.length_append] at hlen; omega
              have hc5 := nextC_le rv c 43
              have hci := hS.hc
              generalize nextC rv c 43 = c5 at *
              generalize l ++ nextL rv c 43 = l5 at *
              have HT : Aside ((l5 ++ addL (Y j)) ++ ofGo X Y A B m i (j + 1) 43 (c5) = full ∧ (l5 ++ addL (Y j)).length + 110 * m ≤ 110 * (A + B) ∧ (A - i) + (B - j) ≤ gk ∧ gk = m + 1) := ⟨htell, hlen, hgS, hm⟩
              have hc5b : (c5 : Int) ≤ 100 := by omega
              have hsY := hY3 j hj
              have hdl := dec_le hsY
              have hit := fun w => Tryd.strconv_Itoa_small (Y j).size hsY w
              obtain ⟨D, hD⟩ : ∃ D : ByteArray, (⟨(Lib.decDigits (Y j).size).toArray⟩ : ByteArray) = D := ⟨_, rfl⟩
              have hDs : D.size ≤ 2 := by rw [← hD]; show (Lib.decDigits (Y j).size).toArray.size ≤ 2; simpa using hdl
              obtain ⟨V1, hV1⟩ : ∃ V : ByteArray, V = ⟨#[43]⟩ ++ D := ⟨_, rfl⟩
              obtain ⟨V2, hV2⟩ : ∃ V : ByteArray, V = V1 ++ ⟨#[58]⟩ := ⟨_, rfl⟩
              obtain ⟨V3, hV3⟩ : ∃ V : ByteArray, V = V2 ++ Y j := ⟨_, rfl⟩
              obtain ⟨V4, hV4⟩ : ∃ V : ByteArray, V = V3 ++ ⟨#[10]⟩ := ⟨_, rfl⟩
              have hV1s : V1.size = 1 + D.size := by rw [hV1, ByteArray.size_append]; rfl
              have hV2s : V2.size = 1 + D.size + 1 := by rw [hV2, ByteArray.size_append, hV1s]; rfl
              have hV3s : V3.size = 1 + D.size + 1 + (Y j).size := by rw [hV3, ByteArray.size_append, hV2s]
              have ha1 : ∀ w, (Op.stringOp .add ⟨#[43]⟩ D).run Tryd.prog w = .ok (.string V1) w := fun w => by rw [hV1]; exact run_string_add_sum w _ _ (by show 1 + D.size ≤ _; omega)
              have ha2 : ∀ w, (Op.stringOp .add V1 ⟨#[58]⟩).run Tryd.prog w = .ok (.string V2) w := fun w => by rw [hV2]; exact run_string_add_sum w _ _ (by rw [hV1s]; show 1 + D.size + 1 ≤ _; omega)
              have ha3 : ∀ w, (Op.stringOp .add V2 (Y j)).run Tryd.prog w = .ok (.string V3) w := fun w => by rw [hV3]; exact run_string_add_sum w _ _ (by rw [hV2s]; omega)
              have ha4 : ∀ w, (Op.stringOp .add V3 ⟨#[10]⟩).run Tryd.prog w = .ok (.string V4) w := fun w => by rw [hV4]; exact run_string_add_sum w _ _ (by rw [hV3s]; show 1 + D.size + 1 + (Y j).size + 1 ≤ _; omega)
              have hV : V4.data.toList = addL (Y j) := by
                rw [hV4, hV3, hV2, hV1, ← hD]
                simp [ByteArray.data_append, addL]
              rw [hD] at hit
              clear hD hV1 hV2 hV3 hV4 hV1s hV2s hV3s hDs hdl
              have hwa : ∀ w5, OfMid (n3 + 3) n3 (n3 + 1) (n3 + 1 + 1) W w5 43 c5 l5 → Calls Tryd.prog 22 #[.pointer (some ⟨n3, 0, none⟩), .string V4] w5.drew fun e w' => e = .returned (.tuple #[.int .i64 V4.size, .nilIface]) ∧ OfMid (n3 + 3) n3 (n3 + 1) (n3 + 1 + 1) W w' 43 c5 (l5 ++ addL (Y j)) := fun w5 h => of_add h.drew hWs3 V4 (Y j) hV hsY hlen2
              have hyw : ∀ w5, OfMid (n3 + 3) n3 (n3 + 1) (n3 + 1 + 1) W w5 43 c5 l5 → w5.cell? ⟨w.heap.size + 1, j, none⟩ = some (.string (Y j)) := fun w5 h => (h.kept.cell (by omega) (by omega) (by omega) (by omega) (by omega)).trans (hY4 j hj)
              clear hV
              clear htell hlen hgS hm hS HF hX4 hY4 hT4 hR4
              generalize tabL X Y A B (i + 1) j = v1 at t3 hv
              generalize tabL X Y A B i (j + 1) = v2 at t4 hv
              go_wp2_with fail
              go_region
              go_wp2_with fail
              go_region
              go_wp2_with (first | (go_at_call 29; refine hnx.mono ?_; rintro e w5 ⟨rfl, hmid⟩; have y5 := hyw _ hmid; have hw5 := hwa _ hmid))
              go_region_with (first | (go_at_call 30; refine (hit _).mono ?_; rintro e w6 ⟨rfl, rfl⟩) | (go_at_call 22; refine hw5.mono ?_; rintro e w6 ⟨rfl, hmid6⟩))
              all_goals
                go_wp2
                go_roundg m
                case measure => go_light; have := HT.out.2.2.2; omega
                case rel =>
                  go_light
                  obtain ⟨h1, h2, h3, h4⟩ := HT.out
                  exact ⟨i, (j + 1), 43, c5, _, by simp, by simp, hmid6.st (by omega) (by omega) (by omega) (by decide) (by omega) h2 h1⟩
        · have hjz : ¬ ((j : Int) < (B : Int)) := by omega
          have hjB2 : j = B := by omega
          have hjne : ((j : Int) == (B : Int)) = true := by simp; omega
          have hnx : Calls Tryd.prog 29 #[.int .u8 45, .pointer (some ⟨n3 + 1, 0, none⟩), .pointer (some ⟨n3 + 1 + 1, 0, none⟩), .pointer (some ⟨n3, 0, none⟩)] wr.drew.drew fun e w' => e = .returned (.tuple #[]) ∧ OfMid (n3 + 3) n3 (n3 + 1) (n3 + 1 + 1) W w' 45 (nextC rv c 45) (l ++ nextL rv c 45) := of_next hS.drew.drew hWs hA hB 45 (by decide)
          obtain ⟨m, hm⟩ : ∃ m, gk = m + 1 := ⟨gk - 1, by omega⟩
          have htell : (l ++ nextL rv c 45) ++ ofGo X Y A B m (i + 1) j 45 (nextC rv c 45 + 1) = full := by
            rw [← hS.tell, hm, List.append_assoc]
            conv => rhs; unfold ofGo
            rw [if_neg (by rintro ⟨_, h, _⟩; omega), if_pos ⟨hi, .inl hjB2⟩]
          have hlen : (l ++ nextL rv c 45).length + 110 * m ≤ 110 * (A + B) := by
            have h1 := hS.hl; have h2 := nextL_le (rv := rv) (kv := 45) hcA
            rw [List.length_append]; omega
          have hc5 := nextC_le rv c 45
          have hci := hS.hc
          generalize nextC rv c 45 = c5 at *
          generalize l ++ nextL rv c 45 = l5 at *
          have HT : Aside ((l5) ++ ofGo X Y A B m (i + 1) j 45 (c5 + 1) = full ∧ (l5).length + 110 * m ≤ 110 * (A + B) ∧ (A - i) + (B - j) ≤ gk ∧ gk = m + 1) := ⟨htell, hlen, hgS, hm⟩
          have hc5b : (c5 : Int) ≤ 100 := by omega
          clear htell hlen hgS hm hS HF hX4 hY4 hT4 hR4
          clear hjB2
          go_wp2_with fail
          go_region
          go_wp2_with fail
          go_region
          go_wp2_with (first | (go_at_call 29; refine hnx.mono ?_; rintro e w5 ⟨rfl, hmid⟩; have d5 := hmid.cell; have f5 := hmid.frozen))
          go_roundg m
          case measure => go_light; have := HT.out.2.2.2; omega
          case rel =>
            go_light
            obtain ⟨h1, h2, h3, h4⟩ := HT.out
            exact ⟨(i + 1), j, 45, c5 + 1, l5, by simp, by simp, (hmid.count2 (by omega) (by omega) (by omega) (c5 + 1) _ (by simp)).st (by omega) (by omega) (by omega) (by decide) (by omega) h2 h1⟩
      · have hiz : ¬ ((i : Int) < (A : Int)) := by omega
        have hj : j < B := by omega
        have hjz : (j : Int) < (B : Int) := by omega
        have hjne : ((j : Int) == (B : Int)) = false := by simp; omega
        have hnx : Calls Tryd.prog 29 #[.int .u8 43, .pointer (some ⟨n3 + 1, 0, none⟩), .pointer (some ⟨n3 + 1 + 1, 0, none⟩), .pointer (some ⟨n3, 0, none⟩)] wr.drew.drew fun e w' => e = .returned (.tuple #[]) ∧ OfMid (n3 + 3) n3 (n3 + 1) (n3 + 1 + 1) W w' 43 (nextC rv c 43) (l ++ nextL rv c 43) := of_next hS.drew.drew hWs hA hB 43 (by decide)
        obtain ⟨m, hm⟩ : ∃ m, gk = m + 1 := ⟨gk - 1, by omega⟩
        have htell : ((l ++ nextL rv c 43) ++ addL (Y j)) ++ ofGo X Y A B m i (j + 1) 43 (nextC rv c 43) = full := by
          rw [← hS.tell, hm, List.append_assoc, List.append_assoc]
          conv => rhs; unfold ofGo
          rw [if_neg (by rintro ⟨h, _⟩; omega), if_neg (by rintro ⟨h, _⟩; omega), if_pos hj]
        have hlen : ((l ++ nextL rv c 43) ++ addL (Y j)).length + 110 * m ≤ 110 * (A + B) := by
          have h1 := hS.hl; have h2 := nextL_le (rv := rv) (kv := 43) hcA; have h3 := addL_le (hY3 j hj)
          rw [List.length_append, List.length_append]; omega
        have hlen2 : (l ++ nextL rv c 43).length ≤ 30000 := by rw [List.length_append] at hlen; omega
        have hc5 := nextC_le rv c 43
        have hci := hS.hc
        generalize nextC rv c 43 = c5 at *
        generalize l ++ nextL rv c 43 = l5 at *
        have HT : Aside ((l5 ++ addL (Y j)) ++ ofGo X Y A B m i (j + 1) 43 (c5) = full ∧ (l5 ++ addL (Y j)).length + 110 * m ≤ 110 * (A + B) ∧ (A - i) + (B - j) ≤ gk ∧ gk = m + 1) := ⟨htell, hlen, hgS, hm⟩
        have hc5b : (c5 : Int) ≤ 100 := by omega
        have hsY := hY3 j hj
        have hdl := dec_le hsY
        have hit := fun w => Tryd.strconv_Itoa_small (Y j).size hsY w
        obtain ⟨D, hD⟩ : ∃ D : ByteArray, (⟨(Lib.decDigits (Y j).size).toArray⟩ : ByteArray) = D := ⟨_, rfl⟩
        have hDs : D.size ≤ 2 := by rw [← hD]; show (Lib.decDigits (Y j).size).toArray.size ≤ 2; simpa using hdl
        obtain ⟨V1, hV1⟩ : ∃ V : ByteArray, V = ⟨#[43]⟩ ++ D := ⟨_, rfl⟩
        obtain ⟨V2, hV2⟩ : ∃ V : ByteArray, V = V1 ++ ⟨#[58]⟩ := ⟨_, rfl⟩
        obtain ⟨V3, hV3⟩ : ∃ V : ByteArray, V = V2 ++ Y j := ⟨_, rfl⟩
        obtain ⟨V4, hV4⟩ : ∃ V : ByteArray, V = V3 ++ ⟨#[10]⟩ := ⟨_, rfl⟩
        have hV1s : V1.size = 1 + D.size := by rw [hV1, ByteArray.size_append]; rfl
        have hV2s : V2.size = 1 + D.size + 1 := by rw [hV2, ByteArray.size_append, hV1s]; rfl
        have hV3s : V3.size = 1 + D.size + 1 + (Y j).size := by rw [hV3, ByteArray.size_append, hV2s]
        have ha1 : ∀ w, (Op.stringOp .add ⟨#[43]⟩ D).run Tryd.prog w = .ok (.string V1) w := fun w => by rw [hV1]; exact run_string_add_sum w _ _ (by show 1 + D.size ≤ _; omega)
        have ha2 : ∀ w, (Op.stringOp .add V1 ⟨#[58]⟩).run Tryd.prog w = .ok (.string V2) w := fun w => by rw [hV2]; exact run_string_add_sum w _ _ (by rw [hV1s]; show 1 + D.size + 1 ≤ _; omega)
        have ha3 : ∀ w, (Op.stringOp .add V2 (Y j)).run Tryd.prog w = .ok (.string V3) w := fun w => by rw [hV3]; exact run_string_add_sum w _ _ (by rw [hV2s]; omega)
        have ha4 : ∀ w, (Op.stringOp .add V3 ⟨#[10]⟩).run Tryd.prog w = .ok (.string V4) w := fun w => by rw [hV4]; exact run_string_add_sum w _ _ (by rw [hV3s]; show 1 + D.size + 1 + (Y j).size + 1 ≤ _; omega)
        have hV : V4.data.toList = addL (Y j) := by
          rw [hV4, hV3, hV2, hV1, ← hD]
          simp [ByteArray.data_append, addL]
        rw [hD] at hit
        clear hD hV1 hV2 hV3 hV4 hV1s hV2s hV3s hDs hdl
        have hwa : ∀ w5, OfMid (n3 + 3) n3 (n3 + 1) (n3 + 1 + 1) W w5 43 c5 l5 → Calls Tryd.prog 22 #[.pointer (some ⟨n3, 0, none⟩), .string V4] w5.drew fun e w' => e = .returned (.tuple #[.int .i64 V4.size, .nilIface]) ∧ OfMid (n3 + 3) n3 (n3 + 1) (n3 + 1 + 1) W w' 43 c5 (l5 ++ addL (Y j)) := fun w5 h => of_add h.drew hWs3 V4 (Y j) hV hsY hlen2
        have hyw : ∀ w5, OfMid (n3 + 3) n3 (n3 + 1) (n3 + 1 + 1) W w5 43 c5 l5 → w5.cell? ⟨w.heap.size + 1, j, none⟩ = some (.string (Y j)) := fun w5 h => (h.kept.cell (by omega) (by omega) (by omega) (by omega) (by omega)).trans (hY4 j hj)
        clear hV
        clear htell hlen hgS hm hS HF hX4 hY4 hT4 hR4
        go_wp2_with fail
        go_region
        go_wp2_with fail
        go_region
        go_wp2_with (first | (go_at_call 29; refine hnx.mono ?_; rintro e w5 ⟨rfl, hmid⟩; have y5 := hyw _ hmid; have hw5 := hwa _ hmid))
        go_region_with (first | (go_at_call 30; refine (hit _).mono ?_; rintro e w6 ⟨rfl, rfl⟩) | (go_at_call 22; refine hw5.mono ?_; rintro e w6 ⟨rfl, hmid6⟩))
        all_goals
          go_wp2
          go_roundg m
          case measure => go_light; have := HT.out.2.2.2; omega
          case rel =>
            go_light
            obtain ⟨h1, h2, h3, h4⟩ := HT.out
            exact ⟨i, (j + 1), 43, c5, _, by simp, by simp, hmid6.st (by omega) (by omega) (by omega) (by decide) (by omega) h2 h1⟩
    · have hia : i = A := by have := hS.hi; omega
      have hjb : j = B := by have := hS.hj; omega
      subst hia
      subst hjb
      have hnx : Calls Tryd.prog 29 #[.int .u8 0, .pointer (some ⟨n3 + 1, 0, none⟩), .pointer (some ⟨n3 + 1 + 1, 0, none⟩), .pointer (some ⟨n3, 0, none⟩)] wr fun e w' => e = .returned (.tuple #[]) ∧ OfMid (n3 + 3) n3 (n3 + 1) (n3 + 1 + 1) W w' 0 (nextC rv c 0) (l ++ nextL rv c 0) := of_next hS hWs hA hB 0 (by decide)
      have hl : l ++ nextL rv c 0 = ofGo X Y i j (i + j) 0 0 0 0 := by
        have ht := hS.tell
        have e : ofGo X Y i j gk i j rv c = nextL rv c 0 := by
          cases gk with
          | zero => rfl
          | succ m =>
            unfold ofGo
            rw [if_neg (by rintro ⟨h, _⟩; omega), if_neg (by rintro ⟨h, _⟩; omega), if_neg (by omega)]
        rw [e, ← HF.out] at ht
        exact ht
      rw [hl] at hnx
      clear hS hl HF
      go_wp2_with (first | (go_at_call 29; refine hnx.mono ?_; rintro e w5 ⟨rfl, hmid⟩) | (go_at_call 25; refine (str_walk hmid.bld ?_).mono ?_))
      · have := hmid.kept.size; omega
      · rintro e w6 ⟨rfl, hb6⟩
        go_wp2
        go_ret
        refine ⟨rfl, hb6.os.trans (hmid.kept.os.trans hbelW.os), hb6.tape.trans (hmid.kept.tape.trans hbelW.tape), hb6.output.trans (hmid.kept.output.trans hbelW.output), ?_, fun k hk => (hb6.block k (by omega)).trans ((hmid.kept.block k (by omega) (by omega) (by omega) (by omega) (by omega)).trans (hbelW.block k hk))⟩
        have h1 := hb6.size
        have h2 := hmid.kept.size
        have h3 := hbelW.size
        omega
end Go.Proofs.YtimkclpogbfciaaDoor.W
