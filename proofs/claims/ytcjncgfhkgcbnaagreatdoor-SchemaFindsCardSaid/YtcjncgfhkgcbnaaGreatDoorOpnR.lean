import Derived.Test.YtcjncgfhkgcbnaaGreatDoorG4
namespace Go.Proofs.YtcjncgfhkgcbnaaGreatDoor
set_option linter.unusedVariables false
set_option linter.unusedSimpArgs false
open Go.ChangeShapes Go.WideShapes Go.ChangeAt Go.RowKit
/-! ## What comes in, where a type holds rows of itself -/
end Go.Proofs.YtcjncgfhkgcbnaaGreatDoor
