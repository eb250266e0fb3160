/- diff.added, diff.Apply, walked. No conditions but that texts are not longer than can be. -/
import Derived.Test.YtimkclpogbfciaaDoorNum
import Derived.Test.YtimkclpogbfciaaDoorLin
import Derived.Test.YtimkclpogbfciaaDoorOf
namespace Go.Proofs.YtimkclpogbfciaaDoor.W
open Go Go.Eng Go.RowKit Go.Shelf
set_option linter.unusedVariables false
set_option linter.unusedSimpArgs false

theorem numP_rest (s : ByteArray) (c : UInt8) : (numP s c).2.1.size ≤ s.size := by
  unfold numP
  simp only
  split
  · exact Nat.zero_le _
  · rw [ByteArray.size_extract]; omega
theorem numP_lt (s : ByteArray) (c : UInt8) (h : 0 < s.size) : (numP s c).2.1.size < s.size := by
  unfold numP
  simp only
  split
  · exact h
  · rw [ByteArray.size_extract]; omega
theorem numP_ok (s : ByteArray) (c : UInt8) (h : (numP s c).2.2 = true) : 0 < (numP s c).1 ∧ (numP s c).1 ≤ 9223372036854775807 := by
  unfold numP at h ⊢
  simp only at h ⊢
  split
  · rename_i hk; rw [if_pos hk] at h; cases h
  · rename_i hk
    rw [if_neg hk] at h
    simp only [Bool.and_eq_true, decide_eq_true_eq] at h
    exact ⟨h.2.1, (atoiP_ok _ h.1).2⟩
theorem numP_rng (s : ByteArray) (c : UInt8) (h : (numP s c).2.2 = false → True) : True := trivial

/-- An added line that a piece tells, and what is behind. -/
def addQ (n : Int) (r : ByteArray) (b : Bool) : ByteArray × ByteArray × Bool :=
  if b = true ∧ n < (r.size : Int) ∧ r.data.toList[n.toNat]? = some 10 ∧ Lib.indexByte (r.extract 0 (n.toNat - 1)).data.toList 10 < 0 then (r.extract 0 n.toNat, r.extract (n.toNat + 1) r.size, true)
  else (ByteArray.empty, ByteArray.empty, false)
def addP (s : ByteArray) : ByteArray × ByteArray × Bool := addQ (numP s 58).1 (numP s 58).2.1 (numP s 58).2.2
theorem addQ_bad {n : Int} {r : ByteArray} {b : Bool} (h : ¬ (b = true ∧ n < (r.size : Int) ∧ r.data.toList[n.toNat]? = some 10 ∧ Lib.indexByte (r.extract 0 (n.toNat - 1)).data.toList 10 < 0)) : addQ n r b = (⟨#[]⟩, ⟨#[]⟩, false) := if_neg h
theorem addQ_good {n : Int} {r : ByteArray} {b : Bool} (h : b = true ∧ n < (r.size : Int) ∧ r.data.toList[n.toNat]? = some 10 ∧ Lib.indexByte (r.extract 0 (n.toNat - 1)).data.toList 10 < 0) : addQ n r b = (r.extract 0 n.toNat, r.extract (n.toNat + 1) r.size, true) := if_pos h

set_option maxHeartbeats 1000000 in
set_option maxRecDepth 100000 in
theorem added_walk (s : ByteArray) (hs : s.size ≤ 281474976710656) (w : World) (hT : Tabs Tryd.prog w) :
    Calls Tryd.prog 21 #[.string s] w fun e w' => e = .returned (.tuple #[.string (addP s).1, .string (addP s).2.1, .bool (addP s).2.2]) ∧ Below w.heap.size w w' := by
  have hnum := number_walk s 58 hs w hT
  have hre := numP_rest s 58
  have hok := numP_ok s 58
  unfold addP
  generalize (numP s 58).1 = n at *
  generalize (numP s 58).2.1 = r at *
  generalize (numP s 58).2.2 = b at *
  cases b with
  | false =>
    clear hok
    rw [addQ_bad (by rintro ⟨h, _⟩; cases h)]
    simp only
    go_enter Tryd.func21, Tryd.ntmps21
    go_wp2_with (first | (go_at_call 23; refine hnum.mono ?_; rintro e w1 ⟨rfl, hb1⟩))
    go_ret3
    exact ⟨rfl, hb1⟩
  | true =>
    obtain ⟨h1, h2⟩ := hok rfl
    obtain ⟨m, rfl⟩ : ∃ m : Nat, n = m := ⟨n.toNat, by omega⟩
    clear hok
    by_cases h3 : (m : Int) < (r.size : Int)
    · have h4 : m < r.size := by omega
      have hget : r.data.toList[m]? = some r[m] := by
        rw [List.getElem?_eq_getElem (by simpa using h4)]
        rfl
      have hix : ∀ w, (Instr.index 9 (.string r) (.int .i64 (m : Int))).run Tryd.prog w = .ok (.int .u8 (r[m]).toNat) w := fun w => by
        rw [run_index_string w 9 r .i64 m Tryd.underlying9, dif_pos ⟨by omega, h3⟩]
        simp
      generalize r[m] = x at *
      have hge : ¬ (r.size : Int) ≤ (m : Int) := by omega
      have hge2 : ¬ r.size ≤ m := by omega
      by_cases h5 : x = 10
      · subst h5
        have hx : ((UInt8.toNat 10 : Nat) : Int) = 10 := rfl
        have hwr : IntKind.i64.wrap ((m : Int) - 1) = ((m - 1 : Nat) : Int) := by rw [IntKind.wrap_i64]; omega
        have hwp : IntKind.i64.wrap ((m : Int) + 1) = ((m + 1 : Nat) : Int) := by rw [IntKind.wrap_i64]; omega
        have hcon := fun w => Tryd.strings_Contains_one (r.extract 0 (m - 1)) 10 w
        have hm1 : ((m - 1 : Nat) : Int) ≤ (r.size : Int) := by omega
        have hm2 : (0 : Int) ≤ ((m - 1 : Nat) : Int) := by omega
        have hm3 : ((m + 1 : Nat) : Int) ≤ (r.size : Int) := by omega
        have hm4 : (0 : Int) ≤ ((m + 1 : Nat) : Int) := by omega
        have hm5 : (m : Int) ≤ (r.size : Int) := by omega
        have hm6 : (0 : Int) ≤ (m : Int) := by omega
        by_cases h6 : Lib.indexByte (r.extract 0 (m - 1)).data.toList 10 < 0
        · have h7 : decide (0 ≤ Lib.indexByte (r.extract 0 (m - 1)).data.toList 10) = false := decide_eq_false (by omega)
          rw [addQ_good (by simp only [Int.toNat_natCast]; exact ⟨trivial, h3, hget, h6⟩)]
          simp only [Int.toNat_natCast]
          rw [h7] at hcon
          clear hget h6 h7
          generalize m - 1 = m1 at *
          generalize m + 1 = m2 at *
          go_enter Tryd.func21, Tryd.ntmps21
          go_wp2_with (first | (go_at_call 23; refine hnum.mono ?_; rintro e w1 ⟨rfl, hb1⟩) | (go_at_call 35; refine (hcon _).mono ?_; rintro e w2 ⟨rfl, rfl⟩))
          go_quiet (fail)
          go_wp2
          go_ret3
          exact ⟨rfl, hb1.os, hb1.tape, hb1.output, hb1.size, hb1.block⟩
        · have h7 : decide (0 ≤ Lib.indexByte (r.extract 0 (m - 1)).data.toList 10) = true := decide_eq_true (by omega)
          rw [addQ_bad (by simp only [Int.toNat_natCast]; rintro ⟨_, _, _, h⟩; exact h6 h)]
          simp only
          rw [h7] at hcon
          clear hget h6 h7
          generalize m - 1 = m1 at *
          generalize m + 1 = m2 at *
          go_enter Tryd.func21, Tryd.ntmps21
          go_wp2_with (first | (go_at_call 23; refine hnum.mono ?_; rintro e w1 ⟨rfl, hb1⟩) | (go_at_call 35; refine (hcon _).mono ?_; rintro e w2 ⟨rfl, rfl⟩))
          go_ret3
          exact ⟨rfl, hb1⟩
      · have hx : ((x.toNat : Nat) : Int) ≠ 10 := by
          intro e
          apply h5
          apply UInt8.toNat_inj.1
          have : x.toNat = 10 := by omega
          exact this
        have hx2 : ((x.toNat : Int) != 10) = true := by simpa using hx
        rw [addQ_bad (by simp only [Int.toNat_natCast]; rintro ⟨_, _, h, _⟩; rw [hget] at h; exact h5 (by simpa using h))]
        simp only
        clear hget h5
        go_enter Tryd.func21, Tryd.ntmps21
        go_wp2_with (first | (go_at_call 23; refine hnum.mono ?_; rintro e w1 ⟨rfl, hb1⟩))
        go_ret3
        exact ⟨rfl, hb1⟩
    · have hge : (r.size : Int) ≤ (m : Int) := by omega
      have hge2 : r.size ≤ m := by omega
      rw [addQ_bad (by rintro ⟨_, h, _⟩; exact h3 h)]
      simp only
      go_enter Tryd.func21, Tryd.ntmps21
      go_wp2_with (first | (go_at_call 23; refine hnum.mono ?_; rintro e w1 ⟨rfl, hb1⟩))
      go_ret3
      exact ⟨rfl, hb1⟩

theorem addP_size (s : ByteArray) : (addP s).1.size + (addP s).2.1.size ≤ s.size := by
  have h := numP_rest s 58
  unfold addP addQ
  split
  · rename_i hh
    obtain ⟨_, hh, _⟩ := hh
    simp only [ByteArray.size_extract]
    omega
  · show 0 + 0 ≤ _
    omega
theorem addP_lt (s : ByteArray) (h : 0 < s.size) : (addP s).2.1.size < s.size := by
  have h1 := numP_rest s 58
  unfold addP addQ
  split
  · rename_i hh
    obtain ⟨_, hh, _⟩ := hh
    simp only [ByteArray.size_extract]
    omega
  · exact h

/-- What a patch makes of lines: d: what is left of it; bf: the kind ahead of it; l: what is made. -/
def appQ : Nat → ByteArray → List ByteArray → Nat → List UInt8 → Option (List UInt8)
  | 0, d, xs, bf, l => if xs.length = 0 then some l else none
  | g + 1, d, xs, bf, l => match d.data.toList with
    | [] => if xs.length = 0 then some l else none
    | k :: _ =>
      if k.toNat = 43 then
        if (addP (d.extract 1 d.size)).2.2 = true then appQ g (addP (d.extract 1 d.size)).2.1 xs 43 (l ++ (addP (d.extract 1 d.size)).1.data.toList) else none
      else if ((k.toNat = 61 ∨ k.toNat = 45) ∧ k.toNat ≠ bf) ∧ (numP (d.extract 1 d.size) 10).2.2 = true ∧ (numP (d.extract 1 d.size) 10).1 ≤ (xs.length : Int) then
        appQ g (numP (d.extract 1 d.size) 10).2.1 (xs.drop (numP (d.extract 1 d.size) 10).1.toNat) k.toNat (if k.toNat = 61 then l ++ Lib.join ((xs.take (numP (d.extract 1 d.size) 10).1.toNat).map (·.data.toList)) [] else l)
      else none
def appR : Option (List UInt8) → ByteArray × Int
  | some l => (⟨l.toArray⟩, 0)
  | none => (⟨#[]⟩, 2)
def applyP (s t : ByteArray) : ByteArray × Int := appR (appQ t.size t (linesB s) 0 [])
def sumL (xs : List ByteArray) : Nat := (xs.map (·.size)).sum

theorem appQ_nil (g : Nat) (d : ByteArray) (xs : List ByteArray) (bf : Nat) (l : List UInt8) (h : d.data.toList = []) : appQ g d xs bf l = if xs.length = 0 then some l else none := by
  cases g with
  | zero => rfl
  | succ g => unfold appQ; rw [h]
theorem appQ_cons (g : Nat) {d : ByteArray} (xs : List ByteArray) (bf : Nat) (l : List UInt8) {k : UInt8} {r : List UInt8} (h : d.data.toList = k :: r) : appQ (g + 1) d xs bf l =
    if k.toNat = 43 then
      if (addP (d.extract 1 d.size)).2.2 = true then appQ g (addP (d.extract 1 d.size)).2.1 xs 43 (l ++ (addP (d.extract 1 d.size)).1.data.toList) else none
    else if ((k.toNat = 61 ∨ k.toNat = 45) ∧ k.toNat ≠ bf) ∧ (numP (d.extract 1 d.size) 10).2.2 = true ∧ (numP (d.extract 1 d.size) 10).1 ≤ (xs.length : Int) then
      appQ g (numP (d.extract 1 d.size) 10).2.1 (xs.drop (numP (d.extract 1 d.size) 10).1.toNat) k.toNat (if k.toNat = 61 then l ++ Lib.join ((xs.take (numP (d.extract 1 d.size) 10).1.toNat).map (·.data.toList)) [] else l)
    else none := by
  conv => lhs; unfold appQ
  rw [h]

theorem sumL_app (a b : List ByteArray) : sumL (a ++ b) = sumL a + sumL b := by simp [sumL]
theorem sumL_cut (xs : List ByteArray) (n : Nat) : sumL (xs.take n) + sumL (xs.drop n) = sumL xs := by rw [← sumL_app, List.take_append_drop]
theorem join_nil : ∀ xs : List ByteArray, (Lib.join (xs.map (·.data.toList)) []).length = sumL xs
  | [] => rfl
  | [x] => by simp [Lib.join, sumL]
  | x :: y :: r => by
    have := join_nil (y :: r)
    simp only [List.map_cons, Lib.join, List.length_append, List.length_nil] at this ⊢
    rw [show sumL (x :: y :: r) = x.size + sumL (y :: r) by simp [sumL], ← this]
    simp

theorem Bld.below {C b : Nat} {l : List UInt8} {w w' : World} (h : Bld C b l w) (hb : Below w.heap.size w w') (hbw : b < w.heap.size) : Bld C b l w' := by
  obtain ⟨p, v, hp, hbC, hbk, hown⟩ := h
  exact ⟨p, v, hp, hbC, (hb.block b hbw).trans hbk, hown.kept (row := none) ⟨hb.os, hb.tape, hb.output, hb.size, fun k hk _ => hb.block k hk⟩ (by cases v.ownBlock with
    | none => exact .inl rfl
    | some _ => exact .inr (by simp))⟩
theorem Kept.below {C b : Nat} {W w w' : World} (h : Kept C b W w) (hb : Below w.heap.size w w') : Kept C b W w' :=
  ⟨hb.os.trans h.os, hb.tape.trans h.tape, hb.output.trans h.output, Nat.le_trans h.size hb.size, fun k k1 k2 k3 => (hb.block k (Nat.lt_of_lt_of_le k3 h.size)).trans (h.block k k1 k2 k3)⟩
theorem Kept.on {C b : Nat} {W w w' : World} (h : Kept C b W w) (h2 : Kept C b w w') : Kept C b W w' :=
  ⟨h2.os.trans h.os, h2.tape.trans h.tape, h2.output.trans h.output, Nat.le_trans h.size h2.size, fun k k1 k2 k3 => (h2.block k k1 k2 (Nat.lt_of_lt_of_le k3 h.size)).trans (h.block k k1 k2 k3)⟩

theorem ap_facts (d : ByteArray) (h : d.data.toList ≠ []) (hs : d.size ≤ 140737488355328) : ∃ (kz : Nat) (p1 p2 : ByteArray) (p3 : Bool) (z : Int) (q2 : ByteArray) (q3 : Bool),
    kz < 256 ∧ (d.toList == []) = false ∧ d.toList ≠ [] ∧ d.toList.isEmpty = false ∧ (1 : Int) ≤ (d.size : Int) ∧
    (∀ w, (Instr.index 9 (.string d) (.int .i64 0)).run Tryd.prog w = .ok (.int .u8 kz) w) ∧
    (∀ w, Tabs Tryd.prog w → Calls Tryd.prog 21 #[.string (d.extract 1 d.size)] w fun e w' => e = .returned (.tuple #[.string p1, .string p2, .bool p3]) ∧ Below w.heap.size w w') ∧
    p1.size + p2.size + 1 ≤ d.size ∧
    (∀ w, Tabs Tryd.prog w → Calls Tryd.prog 23 #[.string (d.extract 1 d.size), .int .u8 10] w fun e w' => e = .returned (.tuple #[.int .i64 z, .string q2, .bool q3]) ∧ Below w.heap.size w w') ∧
    q2.size + 1 ≤ d.size ∧ (q3 = true → 0 < z ∧ z ≤ 9223372036854775807) ∧
    (∀ g xs bf l, appQ (g + 1) d xs bf l = if kz = 43 then (if p3 = true then appQ g p2 xs 43 (l ++ p1.data.toList) else none)
      else if ((kz = 61 ∨ kz = 45) ∧ kz ≠ bf) ∧ q3 = true ∧ z ≤ (xs.length : Int) then appQ g q2 (xs.drop z.toNat) kz (if kz = 61 then l ++ Lib.join ((xs.take z.toNat).map (·.data.toList)) [] else l) else none) := by
  cases hdl : d.data.toList with
  | nil => exact absurd hdl h
  | cons k r =>
    have hsz : d.size = r.length + 1 := by
      have : d.data.toList.length = d.size := by simp
      rw [hdl] at this
      simpa using this.symm
    have htsz : (d.extract 1 d.size).size = d.size - 1 := by rw [ByteArray.size_extract]; omega
    have hsm := addP_size (d.extract 1 d.size)
    have hsn := numP_rest (d.extract 1 d.size) 10
    refine ⟨k.toNat, (addP (d.extract 1 d.size)).1, (addP (d.extract 1 d.size)).2.1, (addP (d.extract 1 d.size)).2.2, (numP (d.extract 1 d.size) 10).1, (numP (d.extract 1 d.size) 10).2.1, (numP (d.extract 1 d.size) 10).2.2,
      k.toNat_lt, by rw [ByteArray.toList_eq, hdl]; rfl, by rw [ByteArray.toList_eq, hdl]; simp, by rw [ByteArray.toList_eq, hdl]; rfl, by omega, fun w => ?_, fun w hT => added_walk _ (by omega) w hT, by omega, fun w hT => number_walk _ 10 (by omega) w hT, by omega, numP_ok _ _, fun g xs bf l => appQ_cons g xs bf l hdl⟩
    rw [run_index_string w 9 d .i64 0 Tryd.underlying9, dif_pos ⟨by omega, by omega⟩]
    have : d[(0 : Int).toNat]'(by show 0 < d.size; omega) = k := by
      show d.data.toList[0]'(by rw [hdl]; simp) = k
      simp [hdl]
    rw [this]

structure ApSt (C b bx M : Nat) (W wr : World) (g : Nat) (d : ByteArray) (o A : Nat) (xs : List ByteArray) (bf : Nat) (l : List UInt8) (full : Option (List UInt8)) : Prop where
  hg : d.size ≤ g
  hA : xs.length = A
  h9 : A ≤ 4294967296
  hl : l.length + d.size + sumL xs ≤ M
  bld : Bld C b l wr
  kept : Kept C b W wr
  cells : ∀ (j : Nat) x, xs[j]? = some x → W.cell? ⟨bx, o + j, none⟩ = some (.string x)
  tell : appQ g d xs bf l = full

set_option maxHeartbeats 8000000 in
set_option maxRecDepth 1000000 in
theorem apply_walk (s t : ByteArray) (w : World) (hs : s.size < 4294967281) (hM : t.size + sumL (linesB s) ≤ 140737488355328) (hT : Tabs Tryd.prog w) :
    Calls Tryd.prog 9 #[.string s, .string t] w fun e w' => e = .returned (.tuple #[.string (applyP s t).1, .int .i64 (applyP s t).2]) ∧ Below w.heap.size w w' := by
  have hl1 := lines_walk s w hs
  have hX := lines_cell s w
  have h9 : (linesB s).length ≤ 4294967296 := by have := linesB_le s; have := piecesB_le s; have := countB_le s; omega
  generalize (Obj.cells (Lib.cellsOf (piecesB s) (Lib.countB s nl + 1)) 9) = o1 at *
  unfold applyP
  generalize linesB s = xs0 at *
  have hX' : ∀ (j : Nat) x, xs0[j]? = some x → (w.alloc o1).cell? ⟨w.heap.size, 0 + j, none⟩ = some (.string x) := fun j x hx => by
    have h1 := (List.getElem?_eq_some_iff.1 hx).1
    rw [Nat.zero_add, hX j h1, List.getD_eq_getElem?_getD, hx]
    rfl
  clear hX
  obtain ⟨A0, hA0⟩ : ∃ A, xs0.length = A := ⟨_, rfl⟩
  rw [hA0] at hl1 h9
  generalize hfull : appQ t.size t xs0 0 [] = full
  generalize hN : w.heap.size = n at *
  have HH : Aside (appQ t.size t xs0 0 [] = full ∧ t.size + sumL xs0 ≤ 140737488355328 ∧ xs0.length = A0 ∧ (∀ (j : Nat) x, xs0[j]? = some x → (w.alloc o1).cell? ⟨n, 0 + j, none⟩ = some (.string x))) := ⟨hfull, hM, hA0, hX'⟩
  clear hfull hM hA0 hX'
  have hsz1 : (w.alloc o1).heap.size = n + 1 := by simp [hN]
  go_enter Tryd.func9, Tryd.ntmps9
  go_wp2_with (first | (go_at_call 10; refine hl1.mono ?_; rintro e w1 ⟨rfl, hw⟩; rw [hw]; clear hw))
  obtain ⟨W, hW⟩ : ∃ W, W = (w.alloc o1).alloc (.cells #[.pointer none, .slice none 0 0] 44) := ⟨_, rfl⟩
  rw [← hW]
  have hWs : W.heap.size = n + 2 := by rw [hW]; simp [hN]
  have hWo : ∀ k o, k < n + 1 → W.cell? ⟨k, o, none⟩ = (w.alloc o1).cell? ⟨k, o, none⟩ := fun k o hk => by
    rw [hW, World.cell?_alloc_old _ _ _ (by simp [hN]; omega)]
  have hWb : W.heap[n + 1]? = some (.cells #[.pointer none, .slice none 0 0] 44 (0, 0)) := by
    rw [hW, ← hsz1]
    exact (MapKept.heap_alloc (w.alloc o1) (.cells _ 44)).1
  have hbelW : Below n w W := by
    rw [hW]
    exact (((Below.refl n w).alloc (by omega) _).alloc (by simp [hN]) _)
  have hst : ApSt (n + 2) (n + 1) n 140737488355328 W W t.size t 0 A0 xs0 0 [] full :=
    ⟨Nat.le_refl _, HH.out.2.2.1, h9, by have := HH.out.2.1; simpa using this, ⟨_, _, .inl rfl, by omega, hWb, World.ownsRowF_of (World.ownsRow_nil _ _ _ _)⟩, ⟨rfl, rfl, rfl, Nat.le_refl _, fun _ _ _ _ => rfl⟩,
      fun j x hx => (hWo n _ (by omega)).trans (HH.out.2.2.2 j x hx), HH.out.1⟩
  clear hW hWo hWb hsz1 HH h9
  go_loopg [1, 6, 8] t.size (fun g s1 s6 s8 wr => ∃ (d : ByteArray) (o A : Nat) (xs : List ByteArray) (bf : Nat) (l : List UInt8), s1 = .string d ∧ s6 = .slice (some ⟨n, o, none⟩) A A ∧ s8 = .int .u8 bf ∧ ApSt (n + 2) (n + 1) n 140737488355328 W wr g d o A xs bf l full)
  case atStart => exact ⟨t, 0, A0, xs0, 0, [], rfl, rfl, rfl, hst⟩
  case round =>
    obtain ⟨d, o, A, xs, bf, l, rfl, rfl, rfl, hS⟩ := hrel
    clear hst
    have hbelr : Below n w wr := ⟨hS.kept.os.trans hbelW.os, hS.kept.tape.trans hbelW.tape, hS.kept.output.trans hbelW.output, Nat.le_trans hbelW.size hS.kept.size, fun k hk => (hS.kept.block k (by omega) (by omega) (by omega)).trans (hbelW.block k hk)⟩
    have hrsz : n + 2 ≤ wr.heap.size := by have := hS.kept.size; omega
    cases hdl : d.data.toList with
    | nil =>
      obtain rfl : d = ⟨#[]⟩ := by
        cases d with
        | mk a => cases a with
          | mk l => simp at hdl; subst hdl; rfl
      have hT0 := hS.tell
      rw [appQ_nil _ _ _ _ _ hdl, hS.hA] at hT0
      have HF : Aside ((if A = 0 then some l else none) = full) := hT0
      have hbld := hS.bld
      have hbw : n + 1 ≤ wr.heap.size := by omega
      clear hT0 hdl hS
      by_cases hA : A = 0
      · subst hA
        go_wp2_with (first | (go_at_call 25; refine (str_walk hbld hbw).mono ?_; rintro e w6 ⟨rfl, hb6⟩))
        go_ret2
        rw [← HF.out, if_pos trivial]
        exact ⟨rfl, hbelr.trans ⟨hb6.os, hb6.tape, hb6.output, hb6.size, fun k hk => hb6.block k (by omega)⟩⟩
      · have hA2 : 0 < A := by omega
        go_wp2
        go_ret2
        rw [← HF.out, if_neg hA]
        exact ⟨rfl, hbelr⟩
    | cons k r =>
      obtain ⟨m, rfl⟩ : ∃ m, gk = m + 1 := ⟨gk - 1, by have h1 := hS.hg; have h2 : d.data.toList.length = d.size := by simp
                                                       rw [hdl] at h2; simp at h2; omega⟩
      have hlS := hS.hl
      have h9 := hS.h9
      obtain ⟨kz, p1, p2, p3, z, q2, q3, hkz, hne, hne2, hne3, hle1, hix, hadd, hps, hnum, hqs, hok, hstep⟩ := ap_facts d (by rw [hdl]; simp) (by omega)
      have hT0 := hS.tell
      rw [hstep, hS.hA] at hT0
      have hTr : Tabs Tryd.prog wr := Tabs.below hT (by rw [hN]; exact hbelr)
      have hadd := hadd wr hTr
      have hnum := hnum wr hTr
      clear hdl hstep hTr
      by_cases h43 : kz = 43
      · subst h43
        rw [if_pos rfl] at hT0
        clear hnum hok hqs
        cases p3 with
        | false =>
          have HF : Aside (none = full) := show none = full by simpa using hT0
          clear hT0 hS hps
          go_wp2_with (first | (go_at_call 21; refine hadd.mono ?_; rintro e w2 ⟨rfl, hb2⟩))
          go_ret2
          rw [← HF.out]
          exact ⟨rfl, hbelr.trans (hb2.mono (by omega))⟩
        | true =>
          rw [if_pos rfl] at hT0
          have hl := hlS
          have hw2 : ∀ w2, Below wr.heap.size wr w2 → Calls Tryd.prog 22 #[.pointer (some ⟨n + 1, 0, none⟩), .string p1] w2 fun e w' => e = .returned (.tuple #[.int .i64 p1.size, .nilIface]) ∧ Bld (n + 2) (n + 1) (l ++ p1.data.toList) w' ∧ Kept (n + 2) (n + 1) w2 w' :=
            fun w2 hb => write_walk (n + 2) (n + 1) l p1 w2 (hS.bld.below hb (by omega)) (by omega) (by have := hb.size; omega)
          have HF : Aside (appQ m p2 xs 43 (l ++ p1.data.toList) = full ∧ p2.size ≤ m ∧ (l ++ p1.data.toList).length + p2.size + sumL xs ≤ 140737488355328 ∧ xs.length = A ∧ Kept (n + 2) (n + 1) W wr ∧ (∀ (j : Nat) x, xs[j]? = some x → W.cell? ⟨n, o + j, none⟩ = some (.string x))) :=
            ⟨hT0, by have := hS.hg; omega, by rw [List.length_append]; have : p1.data.toList.length = p1.size := by simp
                                              omega, hS.hA, hS.kept, hS.cells⟩
          clear hT0 hS hps hl
          go_wp2_with (first | (go_at_call 21; refine hadd.mono ?_; rintro e w2 ⟨rfl, hb2⟩) | (go_at_call 22; refine (hw2 _ hb2).mono ?_; rintro e w3 ⟨rfl, hb3, hk3⟩))
          go_roundg m
          case measure => go_light; omega
          case rel =>
            go_light
            obtain ⟨h1, h2, h3, h4, h5, h6⟩ := HF.out
            exact ⟨p2, o, A, xs, 43, _, rfl, rfl, rfl, ⟨h2, h4, h9, h3, hb3, (h5.below hb2).on hk3, h6, h1⟩⟩
      · rw [if_neg h43] at hT0
        have hk43 : ((kz : Int) == 43) = false := by simp; omega
        have hrsn : n ≤ wr.heap.size := by omega
        clear hadd hps
        by_cases hk : kz = 61 ∨ kz = 45
        · by_cases hbf : kz = bf
          · subst hbf
            have HF : Aside (none = full) := show none = full by rw [← hT0, if_neg (by rintro ⟨⟨_, h⟩, _⟩; exact h rfl)]
            clear hT0 hS hqs hok hlS
            rcases hk with rfl | rfl
            · go_wp2_with (first | (go_at_call 23; refine hnum.mono ?_; rintro e w2 ⟨rfl, hb2⟩))
              go_ret2
              rw [← HF.out]
              exact ⟨rfl, hbelr.trans (hb2.mono hrsn)⟩
            · go_wp2_with (first | (go_at_call 23; refine hnum.mono ?_; rintro e w2 ⟨rfl, hb2⟩))
              go_ret2
              rw [← HF.out]
              exact ⟨rfl, hbelr.trans (hb2.mono hrsn)⟩
          · cases q3 with
            | false =>
              have HF : Aside (none = full) := show none = full by rw [← hT0, if_neg (by rintro ⟨_, h, _⟩; cases h)]
              have hbz : ((kz : Int) == (bf : Int)) = false := by simp; omega
              clear hT0 hS hqs hok hlS
              rcases hk with rfl | rfl
              · go_wp2_with (first | (go_at_call 23; refine hnum.mono ?_; rintro e w2 ⟨rfl, hb2⟩))
                go_ret2
                rw [← HF.out]
                exact ⟨rfl, hbelr.trans (hb2.mono hrsn)⟩
              · go_wp2_with (first | (go_at_call 23; refine hnum.mono ?_; rintro e w2 ⟨rfl, hb2⟩))
                go_ret2
                rw [← HF.out]
                exact ⟨rfl, hbelr.trans (hb2.mono hrsn)⟩
            | true =>
              obtain ⟨hz0, hz1⟩ := hok rfl
              obtain ⟨y, rfl⟩ : ∃ y : Nat, z = y := ⟨z.toNat, by omega⟩
              have hbz : ((kz : Int) == (bf : Int)) = false := by simp; omega
              by_cases hzA : (y : Int) ≤ (A : Int)
              · rw [if_pos ⟨⟨hk, hbf⟩, rfl, hzA⟩, Int.toNat_natCast] at hT0
                have hzA2 : y ≤ A := by omega
                have hzA3 : ¬ A < y := by omega
                have hA0 : ¬ A = 0 := by omega
                have hy0 : (0 : Int) ≤ (y : Int) := by omega
                have hxl := hS.hA
                have hcut := sumL_cut xs y
                have hcells : ∀ w1, Below wr.heap.size wr w1 → ∀ (j : Nat) x, xs[j]? = some x → w1.cell? ⟨n, o + j, none⟩ = some (.string x) := fun w1 hb j x hx => by
                  have h1 := hS.cells j x hx
                  simp only [World.cell?, (hb.block n (by omega)).trans (hS.kept.block n (by omega) (by omega) (by omega))] at h1 ⊢
                  exact h1
                have hdrop : ∀ (j : Nat) x, (xs.drop y)[j]? = some x → W.cell? ⟨n, o + y + j, none⟩ = some (.string x) := fun j x hx => by
                  rw [List.getElem?_drop] at hx
                  have := hS.cells (y + j) x hx
                  rw [Nat.add_assoc]
                  exact this
                have hdl2 : (xs.drop y).length = A - y := by rw [List.length_drop, hxl]
                have hq2m : q2.size ≤ m := by have := hS.hg; omega
                rcases hk with rfl | rfl
                · rw [if_pos rfl] at hT0
                  have hjl := join_nil (xs.take y)
                  obtain ⟨V, hV⟩ : ∃ V : ByteArray, V = ⟨(Lib.join ((xs.take y).map (·.data.toList)) []).toArray⟩ := ⟨_, rfl⟩
                  have hVl : V.data.toList = Lib.join ((xs.take y).map (·.data.toList)) [] := by rw [hV]
                  have hVs : V.size = sumL (xs.take y) := by
                    rw [← hjl, ← hVl]; simp
                  rw [← hVl] at hT0
                  have hjoin : ∀ w1, Below wr.heap.size wr w1 → Calls Tryd.prog 24 #[.slice (some ⟨n, o, none⟩) y A, .string ⟨#[]⟩] w1 fun e w' => e = .returned (.string V) ∧ Below w1.heap.size w1 w' := fun w1 hb => by
                    have h1 := Tryd.strings_Join n o A (xs.take y) ⟨#[]⟩ w1 (fun j x hx => hcells w1 hb j x (by rw [List.getElem?_take] at hx; split at hx; exact hx; cases hx)) (by have := hb.size; omega) (by rw [List.length_take]; omega) (by rw [List.length_take]; omega) (by exact (show (Lib.join ((xs.take y).map (·.data.toList)) []).length ≤ 140737488355328 by rw [hjl]; omega))
                    have h2 : (xs.take y).length = y := by rw [List.length_take]; omega
                    rw [h2] at h1
                    rw [hV]
                    exact h1
                  have hwr : ∀ w1, Below wr.heap.size wr w1 → Calls Tryd.prog 22 #[.pointer (some ⟨n + 1, 0, none⟩), .string V] w1 fun e w' => e = .returned (.tuple #[.int .i64 V.size, .nilIface]) ∧ Bld (n + 2) (n + 1) (l ++ V.data.toList) w' ∧ Kept (n + 2) (n + 1) w1 w' :=
                    fun w1 hb => write_walk (n + 2) (n + 1) l V w1 (hS.bld.below hb (by omega)) (by omega) (by have := hb.size; omega)
                  have HF : Aside (appQ m q2 (xs.drop y) 61 (l ++ V.data.toList) = full ∧ q2.size ≤ m ∧ (l ++ V.data.toList).length + q2.size + sumL (xs.drop y) ≤ 140737488355328 ∧ (xs.drop y).length = A - y ∧ Kept (n + 2) (n + 1) W wr ∧ (∀ (j : Nat) x, (xs.drop y)[j]? = some x → W.cell? ⟨n, o + y + j, none⟩ = some (.string x))) :=
                    ⟨hT0, hq2m, by rw [List.length_append]; have : V.data.toList.length = V.size := by simp
                                   omega, hdl2, hS.kept, hdrop⟩
                  clear hT0 hS hqs hok hlS hjl hV hVl hVs hcells hdrop hdl2 hcut hxl
                  by_cases hAy : A = y
                  · have HA : Aside (A = y) := hAy
                    subst hAy
                    go_wp2_with (first | (go_at_call 23; refine hnum.mono ?_; rintro e w2 ⟨rfl, hb2⟩) | (go_at_call 24; refine (hjoin _ hb2).mono ?_; rintro e w3 ⟨rfl, hb3⟩) | (go_at_call 22; refine (hwr _ (below_on hb2 hb3)).mono ?_; rintro e w4 ⟨rfl, hb4, hk4⟩))
                    go_roundg m
                    case measure => go_light; omega
                    case rel =>
                      go_light
                      obtain ⟨h1, h2, h3, h4, h5, h6⟩ := HF.out
                      have h7 : xs.drop A = [] := List.length_eq_zero_iff.1 (by omega)
                      rw [h7] at h1 h3
                      exact ⟨q2, o, 0, [], 61, _, rfl, by simp, rfl, ⟨h2, rfl, Nat.zero_le _, h3, hb4, ((h5.below hb2).below hb3).on hk4, fun j x hx => by simp at hx, h1⟩⟩
                  · have hAy2 : ¬ y = A := fun h => hAy h.symm
                    go_wp2_with (first | (go_at_call 23; refine hnum.mono ?_; rintro e w2 ⟨rfl, hb2⟩) | (go_at_call 24; refine (hjoin _ hb2).mono ?_; rintro e w3 ⟨rfl, hb3⟩) | (go_at_call 22; refine (hwr _ (below_on hb2 hb3)).mono ?_; rintro e w4 ⟨rfl, hb4, hk4⟩))
                    go_roundg m
                    case measure => go_light; omega
                    case rel =>
                      go_light
                      obtain ⟨h1, h2, h3, h4, h5, h6⟩ := HF.out
                      exact ⟨q2, o + y, A - y, xs.drop y, 61, _, rfl, by simp [Addr.add], rfl, ⟨h2, h4, by omega, h3, hb4, ((h5.below hb2).below hb3).on hk4, h6, h1⟩⟩
                · rw [if_neg (by decide)] at hT0
                  have HF : Aside (appQ m q2 (xs.drop y) 45 l = full ∧ q2.size ≤ m ∧ l.length + q2.size + sumL (xs.drop y) ≤ 140737488355328 ∧ (xs.drop y).length = A - y ∧ Kept (n + 2) (n + 1) W wr ∧ (∀ (j : Nat) x, (xs.drop y)[j]? = some x → W.cell? ⟨n, o + y + j, none⟩ = some (.string x)) ∧ Bld (n + 2) (n + 1) l wr) :=
                    ⟨hT0, hq2m, by omega, hdl2, hS.kept, hdrop, hS.bld⟩
                  clear hT0 hS hqs hok hlS hcells hdrop hdl2 hcut hxl
                  by_cases hAy : A = y
                  · subst hAy
                    go_wp2_with (first | (go_at_call 23; refine hnum.mono ?_; rintro e w2 ⟨rfl, hb2⟩))
                    go_roundg m
                    case measure => go_light; omega
                    case rel =>
                      go_light
                      obtain ⟨h1, h2, h3, h4, h5, h6, h8⟩ := HF.out
                      have h7 : xs.drop A = [] := List.length_eq_zero_iff.1 (by omega)
                      rw [h7] at h1 h3
                      exact ⟨q2, o, 0, [], 45, _, rfl, by simp, rfl, ⟨h2, rfl, Nat.zero_le _, h3, h8.below hb2 (by omega), h5.below hb2, fun j x hx => by simp at hx, h1⟩⟩
                  · have hAy2 : ¬ y = A := fun h => hAy h.symm
                    go_wp2_with (first | (go_at_call 23; refine hnum.mono ?_; rintro e w2 ⟨rfl, hb2⟩))
                    go_roundg m
                    case measure => go_light; omega
                    case rel =>
                      go_light
                      obtain ⟨h1, h2, h3, h4, h5, h6, h8⟩ := HF.out
                      exact ⟨q2, o + y, A - y, xs.drop y, 45, _, rfl, by simp [Addr.add], rfl, ⟨h2, h4, by omega, h3, h8.below hb2 (by omega), h5.below hb2, h6, h1⟩⟩
              · have HF : Aside (none = full) := show none = full by rw [← hT0, if_neg (by rintro ⟨_, _, h⟩; exact hzA h)]
                have hzA3 : A < y := by omega
                clear hT0 hS hqs hok hlS
                rcases hk with rfl | rfl
                · go_wp2_with (first | (go_at_call 23; refine hnum.mono ?_; rintro e w2 ⟨rfl, hb2⟩))
                  go_ret2
                  rw [← HF.out]
                  exact ⟨rfl, hbelr.trans (hb2.mono hrsn)⟩
                · go_wp2_with (first | (go_at_call 23; refine hnum.mono ?_; rintro e w2 ⟨rfl, hb2⟩))
                  go_ret2
                  rw [← HF.out]
                  exact ⟨rfl, hbelr.trans (hb2.mono hrsn)⟩
        · have h61 : ((kz : Int) != 61) = true := by simp; omega
          have h45 : ((kz : Int) != 45) = true := by simp; omega
          have HF : Aside (none = full) := show none = full by rw [← hT0, if_neg (by rintro ⟨⟨h, _⟩, _⟩; exact hk h)]
          clear hT0 hS hqs hok hlS
          go_wp2_with (first | (go_at_call 23; refine hnum.mono ?_; rintro e w2 ⟨rfl, hb2⟩))
          go_ret2
          rw [← HF.out]
          exact ⟨rfl, hbelr.trans (hb2.mono hrsn)⟩
end Go.Proofs.YtimkclpogbfciaaDoor.W
