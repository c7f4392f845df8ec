import Derived.Test.YtcjncgfhkgcbnaaGreatDoorHW
import Derived.Test.YtcjncgfhkgcbnaaGreatDoorG4
namespace Go.Proofs.YtcjncgfhkgcbnaaGreatDoor
set_option linter.unusedVariables false
set_option linter.unusedSimpArgs false
open Go.RowKit
/-! ## A box that stays as it is from now on: pointers to it are pointers to data -/
section
variable {P : Program} {E : Env} {s : AS}
end
end Go.Proofs.YtcjncgfhkgcbnaaGreatDoor
