/- Chapter 9, plain: its examples, over the models. -/
import Derived.Test.YtgpokdaacbjimabS
import Derived.KernelRfl
namespace Go.Proofs.Ytgpokdaacbjimab.W
open Go Go.Eng
set_option maxRecDepth 100000
theorem known_ok (w : Nat) : m_suturelaw9_known (w + 200) = some true := by kernel_rfl
end Go.Proofs.Ytgpokdaacbjimab.W
