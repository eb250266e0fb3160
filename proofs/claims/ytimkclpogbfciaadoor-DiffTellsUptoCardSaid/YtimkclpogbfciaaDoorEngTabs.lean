/- The engine: package variables whose contents are known: strconv's table of the powers of ten, its two errors. -/
import Derived.Below
import Derived.ProofKit
import Derived.Lib.LaidTab
import Derived.Lib.ItoaNum
namespace Go.Eng
def tabs : List (String × (Array Value -> Prop)) := [("internal/strconv.uint64pow10", fun cs => cs = (Lib.pow10Tab.map fun z => Value.int .u64 z).toArray), ("strconv.ErrRange", fun cs => ∃ t p, cs = #[.iface t p]), ("strconv.ErrSyntax", fun cs => ∃ t p, cs = #[.iface t p])]
end Go.Eng
