/- diff.Lines, walked. No conditions but the text's length. -/
import Derived.Test.YtimkclpogbfciaaDoorShelf
import Derived.WalkKit
import Derived.Deep.LoopGhost
import Derived.Deep.Light
namespace Go.Proofs.YtimkclpogbfciaaDoor.W
open Go Go.RowKit Go.Shelf
set_option linter.unusedVariables false
set_option linter.unusedSimpArgs false

def nl : ByteArray := ⟨#[10]⟩
/-- The pieces behind each line feed. -/
def piecesB (s : ByteArray) : List ByteArray := Lib.splitB nl 1 (Lib.countB s nl) s
/-- The lines: without a last piece that is empty. -/
def linesB (s : ByteArray) : List ByteArray := if ((piecesB s).getLastD ByteArray.empty).toList.isEmpty = true then (piecesB s).dropLast else piecesB s

theorem piecesB_ne (s : ByteArray) : piecesB s ≠ [] := by
  unfold piecesB
  cases Lib.countB s nl with
  | zero => simp [Lib.splitB]
  | succ k => unfold Lib.splitB; split <;> simp
theorem piecesB_le (s : ByteArray) : (piecesB s).length ≤ Lib.countB s nl + 1 := Lib.splitB_length_le _ _ _ _
theorem countB_le (s : ByteArray) : Lib.countB s nl ≤ s.size := Lib.countB_le nl (by decide) s.size s (Nat.le_refl _)

theorem split_calls (s : ByteArray) (w : World) (hs : s.size < 4294967281) :
    Calls Tryd.prog 40 #[.string s, .string nl, .int .i64 1, .int .i64 (-1)] w fun e w' =>
      e = .returned (.slice (some ⟨w.heap.size, 0, none⟩) (piecesB s).length (Lib.countB s nl + 1)) ∧ w' = w.alloc (.cells (Lib.cellsOf (piecesB s) (Lib.countB s nl + 1)) 9) := by
  have hle := countB_le s
  exact Any.strings_genSplit_core Tryd.lays221 (by kernel_rfl) s nl 1 (-1) (Lib.countB s nl + 1) w hs (by decide) (by decide)
    (fun x c hx => (Tryd.strings_Index_one x 10 _).mono fun e w' ⟨he, hw⟩ => ⟨by rw [he]; show _ = Ending.returned (Value.int .i64 (Lib.index x.data.toList [10])); rw [Lib.index_one], hw⟩)
    ((Tryd.strings_Count_one s 10 w).mono fun e w' ⟨he, hw⟩ => ⟨by rw [he]; show _ = Ending.returned (Value.int .i64 ((Lib.count s.data.toList [10] : Nat) : Int)); rw [Lib.count_one]; rfl, hw⟩)
    (by decide) (by decide) (by rw [if_pos (by decide)]; omega)

set_option maxHeartbeats 2000000 in
set_option maxRecDepth 100000 in
theorem lines_walk (s : ByteArray) (w : World) (hs : s.size < 4294967281) :
    Calls Tryd.prog 10 #[.string s] w fun e w' =>
      e = .returned (.slice (some ⟨w.heap.size, 0, none⟩) (linesB s).length (linesB s).length) ∧ w' = w.alloc (.cells (Lib.cellsOf (piecesB s) (Lib.countB s nl + 1)) 9) := by
  have hle := countB_le s
  have hp := piecesB_le s
  have hne := piecesB_ne s
  have hsp := split_calls s w hs
  obtain ⟨k, hk⟩ : ∃ k, (piecesB s).length = k + 1 := ⟨(piecesB s).length - 1, by have := List.length_pos_iff.2 hne; omega⟩
  have hlast : (Lib.cellsOf (piecesB s) (Lib.countB s nl + 1))[k]? = some (.string ((piecesB s).getLastD ByteArray.empty)) := by
    simp only [Lib.cellsOf, List.getElem?_toArray]
    rw [List.getElem?_append_left (by simp; omega), List.getElem?_map]
    have : (piecesB s)[k]? = some ((piecesB s).getLastD ByteArray.empty) := by
      rw [List.getLastD_eq_getLast?, List.getLast?_eq_getElem?, hk, Nat.add_sub_cancel]
      cases h : (piecesB s)[k]? with
      | none => rw [List.getElem?_eq_none_iff] at h; omega
      | some x => rfl
    rw [this]; rfl
  have hln : (linesB s).length = if ((piecesB s).getLastD ByteArray.empty).toList.isEmpty = true then k else k + 1 := by
    unfold linesB
    split
    · rw [List.length_dropLast, hk]; rfl
    · exact hk
  rw [hln]
  rw [hk] at hsp hp
  have hN : Lib.countB s nl + 1 ≤ 4294967281 := by omega
  generalize Lib.countB s nl + 1 = N at *
  generalize Lib.cellsOf (piecesB s) N = cs at *
  generalize (piecesB s).getLastD ByteArray.empty = z at *
  have hkz : (0 : Int) ≤ (k : Int) := by omega
  have hc : (w.alloc (.cells cs 9)).cell? ⟨w.heap.size, k, none⟩ = some (.string z) := by
    simp only [World.cell?]
    rw [(MapKept.heap_alloc w (.cells cs 9)).1]
    simpa using hlast
  clear hln hne hlast hk
  cases hz : z.toList.isEmpty with
  | true =>
    rw [if_pos rfl]
    go_enter Tryd.func10, Tryd.ntmps10
    go_wp2_with (first | (go_at_call 40; refine hsp.mono ?_; rintro e w' ⟨rfl, hw⟩; rw [hw]) | go_in)
    all_goals go_ret
    all_goals exact ⟨by first | rfl | simp, rfl⟩
  | false =>
    rw [if_neg (by decide)]
    go_enter Tryd.func10, Tryd.ntmps10
    go_wp2_with (first | (go_at_call 40; refine hsp.mono ?_; rintro e w' ⟨rfl, hw⟩; rw [hw]) | go_in)
    all_goals go_ret
    all_goals exact ⟨by first | rfl | simp, rfl⟩
end Go.Proofs.YtimkclpogbfciaaDoor.W
