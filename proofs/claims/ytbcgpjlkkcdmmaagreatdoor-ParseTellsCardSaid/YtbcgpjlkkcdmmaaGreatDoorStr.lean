/- strings.Repeat, strings.Join, by the kit's contracts: as contracts of the engine. No conditions. -/
import Derived.Test.YtbcgpjlkkcdmmaaGreatDoorDecls
namespace Go.Proofs.YtbcgpjlkkcdmmaaGreatDoor.W
open Go Go.Eng Go.RowKit
set_option linter.unusedVariables false
set_option linter.unusedSimpArgs false




end Go.Proofs.YtbcgpjlkkcdmmaaGreatDoor.W
