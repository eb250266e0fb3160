/- The engine, joined with the program: its regions are such as the engine is sound for. -/
import Derived.Test.YtimkclpogbfciaaDoorRows
import Derived.Test.YtimkclpogbfciaaDoorEngWJ
import Derived.WalkKit
import Derived.ProofKit
import Derived.OpenShut
import Derived.ShutString
import Derived.ChangeOld
import Derived.Below
import Derived.SizedLaws
namespace Go.Proofs.YtimkclpogbfciaaDoor.W
open Go Go.Eng
set_option maxRecDepth 100000
theorem sound : ProgOk Tryd.prog := prog_ok (by kernel_rfl) (by kernel_rfl)
end Go.Proofs.YtimkclpogbfciaaDoor.W
