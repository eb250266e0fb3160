/- What a row's list of package variables gives: strconv's table of the powers of ten holds them. No conditions. -/
import Derived.Test.YtkolhagejiabhaaDoorBase
import Derived.Test.YtkolhagejiabhaaDoorRows
import Derived.LaidMore
import Derived.LaidHandle
import Derived.MakeChecks
import Derived.Stop.LaidErr
import Derived.Lib.LaidTab
namespace Go.Proofs.YtkolhagejiabhaaDoor
open Go Go.Eng
theorem gPow : Tryd.prog.globalNamed "internal/strconv.uint64pow10" = some 4 := by kernel_rfl
theorem gPowType : (Tryd.prog.globals[4]?).map (·.type) = some 107 := by kernel_rfl
theorem uPow : Tryd.prog.underlying 107 = some (.array 20 92) := by kernel_rfl
theorem uPowE : Tryd.prog.underlying 92 = some (.int .u64) := by kernel_rfl
theorem cPow : Tryd.prog.cellsOf 107 = 20 := by kernel_rfl
theorem cPowE : Tryd.prog.cellsOf 92 = 1 := by kernel_rfl
theorem dPow : (Rows.laid_internal_strconv_uint64pow10 : DataW Unit) = Lib.tabData .u64 Lib.pow10Tab := by kernel_rfl
theorem tabs_met {W : World} (l : List (String × DataW Unit)) (hl : l = Rows.placeJoinsRow.laid) (h : laidMetH Tryd.prog l W) : Tabs Tryd.prog W := by
  subst hl
  rw [MakeChecks.laidMetH_plain _ _ _ (by kernel_rfl)] at h
  have h1 : laidMet Tryd.prog (("internal/strconv.uint64pow10", Lib.tabData .u64 Lib.pow10Tab) :: []) W := by
    rw [← dPow]
    exact laidMet.tail (laidMet.tail h)
  have ht := Lib.tabIs_of_head (rest := []) gPow gPowType uPow uPowE cPowE cPow h1
  intro b hb
  obtain ⟨p, hp, hg⟩ := hb
  have he : p = ("internal/strconv.uint64pow10", fun cs => cs = (Lib.pow10Tab.map fun z => Value.int .u64 z).toArray) := by simpa [tabs] using hp
  subst he
  simp only at hg
  obtain rfl : 4 = b := Option.some.inj (gPow.symm.trans hg)
  refine ⟨?_, fun p hp hg' => ?_⟩
  · have hv := ht
    unfold Lib.TabIs World.var? at hv
    rw [gPow] at hv
    simp only [Option.bind_some] at hv
    by_cases hlt : 4 < W.heap.size
    · exact hlt
    · rw [Array.getElem?_eq_none (Nat.le_of_not_lt hlt)] at hv; simp at hv
  · have he : p = ("internal/strconv.uint64pow10", fun cs => cs = (Lib.pow10Tab.map fun z => Value.int .u64 z).toArray) := by simpa [tabs] using hp
    subst he
    exact ⟨_, ht, rfl⟩
end Go.Proofs.YtkolhagejiabhaaDoor
