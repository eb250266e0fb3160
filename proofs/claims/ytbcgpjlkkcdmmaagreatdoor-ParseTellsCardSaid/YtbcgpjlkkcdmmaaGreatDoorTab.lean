/- What a row's list of package variables gives: strconv's table of the powers of ten holds them; its error for a number that is too great is one. No conditions. -/
import Derived.Test.YtbcgpjlkkcdmmaaGreatDoorBase
import Derived.Test.YtbcgpjlkkcdmmaaGreatDoorRows
import Derived.LaidMore
import Derived.LaidHandle
import Derived.MakeChecks
import Derived.Stop.LaidErr
import Derived.Lib.LaidTab
namespace Go.Proofs.YtbcgpjlkkcdmmaaGreatDoor
open Go Go.Eng
theorem gPow : Tryz.prog.globalNamed "internal/strconv.uint64pow10" = some 0 := by kernel_rfl
theorem gPowType : (Tryz.prog.globals[0]?).map (·.type) = some 195 := by kernel_rfl
theorem uPow : Tryz.prog.underlying 195 = some (.array 20 170) := by kernel_rfl
theorem uPowE : Tryz.prog.underlying 170 = some (.int .u64) := by kernel_rfl
theorem cPow : Tryz.prog.cellsOf 195 = 20 := by kernel_rfl
theorem cPowE : Tryz.prog.cellsOf 170 = 1 := by kernel_rfl
theorem dPow : (Rows.laid_internal_strconv_uint64pow10 : DataW Unit) = Lib.tabData .u64 Lib.pow10Tab := by kernel_rfl
theorem gRange : Tryz.prog.globalNamed "strconv.ErrRange" = some 3 := by kernel_rfl
theorem gRangeType : (Tryz.prog.globals[3]?).map (·.type) = some 122 := by kernel_rfl
theorem star : "*" ++ "errors.errorString" = "*errors.errorString" := by decide
theorem rowRange (u : TypeId) (h : Tryz.prog.typeName? 3 u = some "*errors.errorString") : u = 216 :=
  typeName_ptr_named (nm := "errors.errorString") (by rw [star]; kernel_rfl) (by kernel_rfl) (by decide) u (by rw [star]; exact h)
theorem tabs_met {W : World} (l : List (String × DataW Unit)) (hl : l = Rows.parseTellsRow.laid) (h : laidMetH Tryz.prog l W) : Tabs Tryz.prog W := by
  subst hl
  rw [MakeChecks.laidMetH_plain _ _ _ (by kernel_rfl)] at h
  have h0 := laidMet.tail (laidMet.tail h)
  have h1 : laidMet Tryz.prog (("internal/strconv.uint64pow10", Lib.tabData .u64 Lib.pow10Tab) :: [("strconv.ErrRange", Rows.laid_strconv_ErrRange), ("strconv.ErrSyntax", Rows.laid_strconv_ErrSyntax)]) W := by
    rw [← dPow]
    exact h0
  have ht := Lib.tabIs_of_head gPow gPowType uPow uPowE cPowE cPow h1
  obtain ⟨ra, rs, hr, _⟩ := laid_sentinel (laidMet.tail h0) gRange gRangeType Tryz.underlying122 rowRange Tryz.underlying216 Tryz.underlying218 rfl rfl Tryz.underlying9 (by kernel_rfl) (by kernel_rfl)
  have lt : ∀ {n : String} {g : Nat} {cs : Array Value}, Tryz.prog.globalNamed n = some g → W.var? Tryz.prog n = some cs → g < W.heap.size := by
    intro n g cs hg hv
    unfold World.var? at hv
    rw [hg] at hv
    simp only [Option.bind_some] at hv
    by_cases hlt : g < W.heap.size
    · exact hlt
    · rw [Array.getElem?_eq_none (Nat.le_of_not_lt hlt)] at hv; simp at hv
  intro b hb
  obtain ⟨p, hp, hg⟩ := hb
  have fixed : ∀ p ∈ tabs, ∃ cs, W.var? Tryz.prog p.1 = some cs ∧ p.2 cs := by
    intro p hp
    simp only [tabs, List.mem_cons, List.not_mem_nil, or_false] at hp
    rcases hp with rfl | rfl
    · exact ⟨_, ht, rfl⟩
    · exact ⟨_, hr, _, _, rfl⟩
  obtain ⟨cs, hv, _⟩ := fixed p hp
  exact ⟨lt hg hv, fun q hq _ => fixed q hq⟩
end Go.Proofs.YtbcgpjlkkcdmmaaGreatDoor
