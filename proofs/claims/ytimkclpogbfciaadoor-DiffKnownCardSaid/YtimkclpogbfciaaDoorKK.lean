/- DiffKnown: the printed sentence comes to true. No conditions. -/
import Derived.Test.YtimkclpogbfciaaDoorK
namespace Go.Proofs.YtimkclpogbfciaaDoor.W
theorem diffKnown_law : ∃ n, m_suturelaw7_DiffKnown n = some true := ⟨0, rfl⟩
end Go.Proofs.YtimkclpogbfciaaDoor.W
