/- What a row's list of package variables gives: strconv's table of the powers of ten holds them; its error for a number that is too great is one. No conditions. -/
import Derived.Test.YtimkclpogbfciaaDoorBase
import Derived.Test.YtimkclpogbfciaaDoorRows
import Derived.LaidMore
import Derived.LaidHandle
import Derived.MakeChecks
import Derived.Stop.LaidErr
import Derived.Lib.LaidTab
namespace Go.Proofs.YtimkclpogbfciaaDoor
open Go Go.Eng
theorem gPow : Tryd.prog.globalNamed "internal/strconv.uint64pow10" = some 3 := by kernel_rfl
theorem gPowType : (Tryd.prog.globals[3]?).map (·.type) = some 99 := by kernel_rfl
theorem uPow : Tryd.prog.underlying 99 = some (.array 20 86) := by kernel_rfl
theorem uPowE : Tryd.prog.underlying 86 = some (.int .u64) := by kernel_rfl
theorem cPow : Tryd.prog.cellsOf 99 = 20 := by kernel_rfl
theorem cPowE : Tryd.prog.cellsOf 86 = 1 := by kernel_rfl
theorem dPow : (Rows.laid_internal_strconv_uint64pow10 : DataW Unit) = Lib.tabData .u64 Lib.pow10Tab := by kernel_rfl
theorem gRange : Tryd.prog.globalNamed "strconv.ErrRange" = some 2 := by kernel_rfl
theorem gRangeType : (Tryd.prog.globals[2]?).map (·.type) = some 48 := by kernel_rfl
theorem gSyntax : Tryd.prog.globalNamed "strconv.ErrSyntax" = some 1 := by kernel_rfl
theorem gSyntaxType : (Tryd.prog.globals[1]?).map (·.type) = some 48 := by kernel_rfl
theorem star : "*" ++ "errors.errorString" = "*errors.errorString" := by decide
theorem rowRange (u : TypeId) (h : Tryd.prog.typeName? 3 u = some "*errors.errorString") : u = 108 :=
  typeName_ptr_named (nm := "errors.errorString") (by rw [star]; kernel_rfl) (by kernel_rfl) (by decide) u (by rw [star]; exact h)
theorem tabs_met {W : World} (l : List (String × DataW Unit)) (hl : l = Rows.diffBackRow.laid) (h : laidMetH Tryd.prog l W) : Tabs Tryd.prog W := by
  subst hl
  rw [MakeChecks.laidMetH_plain _ _ _ (by kernel_rfl)] at h
  have h0 := laidMet.tail (laidMet.tail h)
  have h1 : laidMet Tryd.prog (("internal/strconv.uint64pow10", Lib.tabData .u64 Lib.pow10Tab) :: [("unicode/utf8.acceptRanges", Rows.laid_unicode_utf8_acceptRanges), ("strconv.ErrRange", Rows.laid_strconv_ErrRange), ("strconv.ErrSyntax", Rows.laid_strconv_ErrSyntax), ("unicode/utf8.first", Rows.laid_unicode_utf8_first)]) W := by
    rw [← dPow]
    exact h0
  have ht := Lib.tabIs_of_head gPow gPowType uPow uPowE cPowE cPow h1
  obtain ⟨ra, rs, hr, _⟩ := laid_sentinel (laidMet.tail (laidMet.tail h0)) gRange gRangeType Tryd.underlying48 rowRange Tryd.underlying108 Tryd.underlying110 rfl rfl Tryd.underlying9 (by kernel_rfl) (by kernel_rfl)
  obtain ⟨sa, ss, hs, _⟩ := laid_sentinel (laidMet.tail (laidMet.tail (laidMet.tail h0))) gSyntax gSyntaxType Tryd.underlying48 rowRange Tryd.underlying108 Tryd.underlying110 rfl rfl Tryd.underlying9 (by kernel_rfl) (by kernel_rfl)
  have lt : ∀ {n : String} {g : Nat} {cs : Array Value}, Tryd.prog.globalNamed n = some g → W.var? Tryd.prog n = some cs → g < W.heap.size := by
    intro n g cs hg hv
    unfold World.var? at hv
    rw [hg] at hv
    simp only [Option.bind_some] at hv
    by_cases hlt : g < W.heap.size
    · exact hlt
    · rw [Array.getElem?_eq_none (Nat.le_of_not_lt hlt)] at hv; simp at hv
  intro b hb
  obtain ⟨p, hp, hg⟩ := hb
  have fixed : ∀ p ∈ tabs, ∃ cs, W.var? Tryd.prog p.1 = some cs ∧ p.2 cs := by
    intro p hp
    simp only [tabs, List.mem_cons, List.not_mem_nil, or_false] at hp
    rcases hp with rfl | rfl | rfl
    · exact ⟨_, ht, rfl⟩
    · exact ⟨_, hr, _, _, rfl⟩
    · exact ⟨_, hs, _, _, rfl⟩
  obtain ⟨cs, hv, _⟩ := fixed p hp
  exact ⟨lt hg hv, fun q hq _ => fixed q hq⟩
end Go.Proofs.YtimkclpogbfciaaDoor
