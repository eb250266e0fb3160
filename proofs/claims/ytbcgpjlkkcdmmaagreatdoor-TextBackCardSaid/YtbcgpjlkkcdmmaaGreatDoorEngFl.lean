/- Whole numbers of few digits as floating-point numbers: nothing is lost; sums, differences, orders are the numbers' own. Plain Lean over the model's own arithmetic. -/
import GoSem.Core.Float
import Derived.Test.YtbcgpjlkkcdmmaaGreatDoorEngW
set_option linter.unusedVariables false
namespace Go.Eng.Fl
open Ieee
abbrev F (v : Int) : Nat := FloatKind.nearest .f64 v
end Go.Eng.Fl
