import Derived.Test.YthgoocdldnkogaaGreatDoorHDp
import Derived.Test.YthgoocdldnkogaaGreatDoorH6
namespace Go.Proofs.YthgoocdldnkogaaGreatDoor
set_option linter.unusedVariables false
set_option linter.unusedSimpArgs false
open Go.RowKit
section
variable {P : Program} {E : Env} {s : AS}
end

section
variable {P : Program} {E : Env} {s : AS}
end
end Go.Proofs.YthgoocdldnkogaaGreatDoor
