import Derived.Test.YtcjncgfhkgcbnaaGreatDoorG4
namespace Go.Proofs.YtcjncgfhkgcbnaaGreatDoor
set_option linter.unusedVariables false
set_option linter.unusedSimpArgs false
open Go.ChangeShapes Go.WideShapes Go.ChangeAt Go.RowKit
end Go.Proofs.YtcjncgfhkgcbnaaGreatDoor
