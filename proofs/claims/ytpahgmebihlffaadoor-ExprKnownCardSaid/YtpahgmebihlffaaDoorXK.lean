/- Chapter 4's example and all else that the first statement of the chapter runs: over the models it comes to true. No conditions. -/
import Derived.Test.YtpahgmebihlffaaDoorE
namespace Go.Proofs.YtpahgmebihlffaaDoor.W
theorem exprKnown_law : ∃ n, m_suturelaw4_ExprKnown n = some true := ⟨0, rfl⟩
end Go.Proofs.YtpahgmebihlffaaDoor.W
