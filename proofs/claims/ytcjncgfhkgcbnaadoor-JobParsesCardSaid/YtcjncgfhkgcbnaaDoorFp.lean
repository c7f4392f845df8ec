import Derived.Test.YtcjncgfhkgcbnaaDoorHW
import Derived.Test.YtcjncgfhkgcbnaaDoorG4
namespace Go.Proofs.YtcjncgfhkgcbnaaDoor
set_option linter.unusedVariables false
set_option linter.unusedSimpArgs false
open Go.RowKit
section
variable {P : Program} {E : Env} {s : AS}
end
end Go.Proofs.YtcjncgfhkgcbnaaDoor
