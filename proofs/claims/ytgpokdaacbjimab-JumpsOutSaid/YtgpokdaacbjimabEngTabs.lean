/- The engine: package variables whose contents are known: of this program none. -/
import Derived.Below
import Derived.ProofKit
namespace Go.Eng
def tabs : List (String × (Array Value → Prop)) := []
end Go.Eng
