/- (*strings.Builder).WriteString, walked over this program's own body; a builder whose row of bytes lies behind some block. No conditions but the length. -/
import Derived.Test.YtimkclpogbfciaaDoorShelf
import Derived.WalkKit
import Derived.Deep.LoopGhost
import Derived.Deep.Light
namespace Go.Proofs.YtimkclpogbfciaaDoor.W
open Go Go.RowKit Go.Shelf
set_option linter.unusedVariables false
set_option linter.unusedSimpArgs false

theorem bldSize : (Tryd.prog.info? 44).map (·.size) = some 2 := by kernel_rfl
theorem bldLies : liesAt Tryd.prog Tryd.prog.depth 44 (2 / Tryd.prog.cellsOf 44) 0 44 1 = true := by kernel_rfl
theorem bldByte : (Tryd.prog.info? 5).map (fun i => (i.zero, i.size, i.bytes)) = some (some (.int .u8 0), 1, 1) := by kernel_rfl

/-- A builder in block b; its row lies from block C on, which is behind b. -/
def Bld (C b : Nat) (l : List UInt8) (w : World) : Prop :=
  ∃ p v, (p = .pointer none ∨ p = .pointer (some ⟨b, 0, none⟩)) ∧ b < C ∧ w.heap[b]? = some (.cells #[p, v] 44 (0, 0)) ∧ w.ownsRowF C 5 1 v l.length (Lib.byteCells l)

set_option maxHeartbeats 1000000 in
set_option maxRecDepth 100000 in
theorem copy_used (b : Nat) (w : World) (h0 : w.cell? ⟨b, 0, none⟩ = some (.pointer (some ⟨b, 0, none⟩))) :
    Calls Tryd.prog 36 #[.pointer (some ⟨b, 0, none⟩)] w fun e w' => e = .returned (.tuple #[]) ∧ w' = w := by
  obtain ⟨j, hj, _⟩ := Option.map_eq_some_iff.1 bldSize
  go_enter Tryd.func36, Tryd.ntmps36
  go_wp2
  rw [Lib.run_neq_ptr_same w _ Tryd.underlying41 hj]
  go_wp2
  go_end0
  exact ⟨rfl, rfl⟩

set_option maxHeartbeats 1000000 in
set_option maxRecDepth 100000 in
theorem copy_fresh (b : Nat) (w : World) (h0 : w.cell? ⟨b, 0, none⟩ = some (.pointer none)) (hsh : w.shape? b = some (44, 2)) (hfz : w.frozen? ⟨b, 0, none⟩ = false) :
    Calls Tryd.prog 36 #[.pointer (some ⟨b, 0, none⟩)] w fun e w' => e = .returned (.tuple #[]) ∧ w' = w.setCell ⟨b, 0, none⟩ (.pointer (some ⟨b, 0, none⟩)) := by
  obtain ⟨j, hj, hjs⟩ := Option.map_eq_some_iff.1 bldSize
  go_enter Tryd.func36, Tryd.ntmps36
  go_wp2
  rw [Lib.run_to_unsafe w ⟨b, 0, none⟩ Tryd.underlying41 Tryd.underlying71 hj (by rw [hjs]; decide) hsh (Nat.zero_lt_succ 1)]
  simp only [Result.andThen]
  rw [Oper.upon_value]
  go_wp2
  rw [run_callFunc_extern Tryd.func45 (by kernel_rfl) (by kernel_rfl) (by kernel_rfl) (e := Extern.AbiNoEscape.same) (by kernel_rfl)]
  rw [Lib.run_noEscape]
  simp only [Result.andThen]
  rw [Oper.upon_value]
  go_wp2
  rw [Lib.run_from_unsafe w ⟨b, 0, none⟩ Tryd.underlying71 Tryd.underlying41 hj hsh bldLies]
  simp only [Result.andThen]
  rw [Oper.upon_value]
  go_wp2
  go_end0
  exact ⟨rfl, rfl⟩

/-- What a write to the builder keeps. -/
structure Kept (C b : Nat) (w w' : World) : Prop where
  os : w'.os = w.os
  tape : w'.tape = w.tape
  output : w'.output = w.output
  size : w.heap.size ≤ w'.heap.size
  block : ∀ k, k < C → k ≠ b → k < w.heap.size → w'.heap[k]? = w.heap[k]?

set_option maxHeartbeats 2000000 in
set_option maxRecDepth 100000 in
theorem write_walk (C b : Nat) (l : List UInt8) (s : ByteArray) (w : World) (h : Bld C b l w) (hlen : l.length + s.size ≤ 140737488355328) (hC : C ≤ w.heap.size) :
    Calls Tryd.prog 22 #[.pointer (some ⟨b, 0, none⟩), .string s] w fun e w' => e = .returned (.tuple #[.int .i64 s.size, .nilIface]) ∧ Bld C b (l ++ s.data.toList) w' ∧ Kept C b w w' := by
  obtain ⟨i0, hi, hz0, hz1, hz2⟩ := info_parts bldByte
  obtain ⟨p, v, hp, hbC, hbk, hown⟩ := h
  have c0 : w.cell? ⟨b, 0, none⟩ = some p := by rw [Lib.cell_of_heap hbk]; rfl
  have hcopy : Calls Tryd.prog 36 #[.pointer (some ⟨b, 0, none⟩)] w fun e w' => e = .returned (.tuple #[]) ∧ w'.heap[b]? = some (.cells #[.pointer (some ⟨b, 0, none⟩), v] 44 (0, 0)) ∧ w'.ownsRowF C 5 1 v l.length (Lib.byteCells l) ∧ w'.heap.size = w.heap.size ∧ Kept C b w w' := by
    rcases hp with rfl | rfl
    · refine (copy_fresh b w c0 (by simp [World.shape?, hbk]) (by simp [World.frozen?, hbk])).mono ?_
      rintro e w' ⟨rfl, rfl⟩
      have hne : v.ownBlock ≠ some b := by
        rcases hown.2 with ⟨rfl, _⟩ | ⟨g, cap, cur, fz, rfl, hg, _⟩
        · simp [Value.ownBlock]
        · intro h
          simp only [Value.ownBlock, Option.some.injEq] at h
          omega
      refine ⟨rfl, by simp [World.setCell, Array.getElem?_modify, hbk], ?_, by simp [World.setCell], ⟨rfl, rfl, rfl, by simp [World.setCell], fun k _ hk _ => Below.heap_setCell _ _ _ _ (fun e => hk (by simp [e]))⟩⟩
      exact hown.kept (row := some b) ⟨rfl, rfl, rfl, by simp [World.setCell], fun k _ hk => Below.heap_setCell _ _ _ _ (fun e => hk (by simp [e]))⟩ (Or.inr hne)
    · refine (copy_used b w c0).mono ?_
      rintro e w' ⟨rfl, rfl⟩
      exact ⟨rfl, hbk, hown, rfl, ⟨rfl, rfl, rfl, Nat.le_refl _, fun _ _ _ _ => rfl⟩⟩
  go_enter Tryd.func22, Tryd.ntmps22
  go_wp2_with (go_at_call 36; refine hcopy.mono ?_)
  rintro e w1 ⟨rfl, hb1, hown1, hsz1, hk1⟩
  have d0 : w1.cell? ⟨b, 1, none⟩ = some v := by rw [Lib.cell_of_heap hb1]; rfl
  go_wp2_with (at_builtin; refine Lib.wpList_append_own_stringF _ rfl _ _ 42 9 rfl C 5 i0 Tryd.underlying42 Tryd.underlying9 hi hz0 hz1 hz2 _ _ _ rfl hown1 s rfl ?c3 ?c4 ?c5 ?_)
  case c3 => unfold maxLen; omega
  case c4 => omega
  case c5 => omega
  intro v' w2 hown' hgrow _
  have hne : v.ownBlock ≠ some b := by
    rcases hown1.2 with ⟨rfl, _⟩ | ⟨g, cap, cur, fz, rfl, hg, _⟩
    · simp [Value.ownBlock]
    · intro h
      simp only [Value.ownBlock, Option.some.injEq] at h
      omega
  have hvC : ∀ k, k < C → some k ≠ v.ownBlock := by
    intro k hk
    rcases hown1.2 with ⟨rfl, _⟩ | ⟨g, cap, cur, fz, rfl, hg, _⟩
    · simp [Value.ownBlock]
    · intro h
      simp only [Value.ownBlock, Option.some.injEq] at h
      omega
  have hb2 : w2.heap[b]? = some (.cells #[.pointer (some ⟨b, 0, none⟩), v] 44 (0, 0)) := by
    rw [hgrow.block b (by omega) (fun e => hne e.symm)]
    exact hb1
  have d1 : w2.cell? ⟨b, 1, none⟩ = some v := by rw [Lib.cell_of_heap hb2]; rfl
  have f1 : w2.frozen? ⟨b, 1, none⟩ = false := Lib.frozen_of_heap hb2 1
  have hne' : v'.ownBlock ≠ some b := by
    rcases hown'.2 with ⟨rfl, _⟩ | ⟨g, cap, cur, fz, rfl, hg, _⟩
    · simp [Value.ownBlock]
    · intro h
      simp only [Value.ownBlock, Option.some.injEq] at h
      omega
  have hlist : l.length + s.size = (l ++ s.data.toList).length := by simp
  have hcells : Lib.byteCells l ++ Lib.strCells s = Lib.byteCells (l ++ s.data.toList) := by simp [Lib.byteCells, Lib.strCells]
  rw [hlist, hcells] at hown'
  obtain ⟨ao, n', cap, rfl⟩ : ∃ ao n' cap, v' = .slice ao n' cap := by
    rcases hown'.2 with ⟨hv, _⟩ | ⟨g, cap, cur, fz, hv, _⟩
    · exact ⟨_, _, _, hv⟩
    · exact ⟨_, _, _, hv⟩
  go_wp2
  go_ret2
  refine ⟨rfl, ⟨.pointer (some ⟨b, 0, none⟩), .slice ao n' cap, .inr rfl, hbC, by simp [World.setCell, Array.getElem?_modify, hb2], ?_⟩, ?_⟩
  · exact hown'.kept (row := some b) ⟨rfl, rfl, rfl, by simp [World.setCell], fun k _ hk => Below.heap_setCell _ _ _ _ (fun e => hk (by simp [e]))⟩ (Or.inr hne')
  · refine ⟨hgrow.os.trans hk1.os, hgrow.tape.trans hk1.tape, hgrow.output.trans hk1.output, by have := hgrow.size; simp [World.setCell]; omega, fun k hkC hkb hkw => ?_⟩
    rw [Below.heap_setCell _ _ _ _ (fun e => hkb (by simpa using e)), hgrow.block k (by omega) (hvC k hkC), hk1.block k hkC hkb hkw]

end Go.Proofs.YtimkclpogbfciaaDoor.W
