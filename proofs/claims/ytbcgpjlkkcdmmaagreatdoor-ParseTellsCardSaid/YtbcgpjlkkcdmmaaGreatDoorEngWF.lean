/- The engine: a law's arguments: numbers, truths, texts, slices of numbers. -/
import Derived.Test.YtbcgpjlkkcdmmaaGreatDoorEngWE
import Derived.ProofKit
import Derived.ChangeSlices
set_option linter.unusedVariables false
set_option linter.unusedSimpArgs false
namespace Go.Eng
open Go.RowKit Go.ChangeShapes Go.WideShapes Go.ChangeAt
def ints (k : IntKind) (zs : List Int) : List T := zs.map fun n => .sc (.int k n)
theorem ints_flat (k : IntKind) : ∀ (zs : List Int), (ints k zs).flatMap T.cells = ints k zs
 | [] => rfl
 | z :: zs => by
  have := ints_flat k zs
  simp only [ints, List.map_cons, List.flatMap_cons, T.cells, List.cons_append, List.nil_append, List.cons.injEq, true_and] at this ⊢
  exact this
end Go.Eng
