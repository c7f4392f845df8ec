import Derived.Test.YthgoocdldnkogaaGreatDoorG4
namespace Go.Proofs.YthgoocdldnkogaaGreatDoor
set_option linter.unusedVariables false
set_option linter.unusedSimpArgs false
open Go.ChangeShapes Go.WideShapes Go.ChangeAt Go.RowKit

end Go.Proofs.YthgoocdldnkogaaGreatDoor
