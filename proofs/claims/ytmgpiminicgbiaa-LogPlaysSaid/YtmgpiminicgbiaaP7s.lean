import Derived.Test.YtmgpiminicgbiaaP7q
import Derived.Test.YtmgpiminicgbiaaP7r
namespace Go.Proofs.Ytmgpiminicgbiaa
set_option linter.unusedVariables false
set_option linter.unusedSimpArgs false
open Go.ChangeShapes Go.WideShapes Go.ChangeAt Go.RowKit
/-! ## LogPlays, as its arguments come in -/
def opnTwo : Opn Try.prog 52 (Int × Int) := opnPair opnInt64 Try.underlying52 (by kernel_rfl) (by kernel_rfl)
theorem plays7_in (x : Int × Int) (hx : opnTwo.wf x) (sc : List Op7) (hs : opnScript7.wf sc) (hz : ∀ o ∈ sc, o.b.length ≤ 140737488355328) : ACalls Try.prog 6 [.agg (opnTwo.av x), .fs 4 sc.length (scriptA sc)] [] (fun _ => false) (fun r h' => r = .c (.bool true)) :=
  plays7 x ⟨bounds_i64 hx.1, bounds_i64 hx.2⟩ sc hs hz
end Go.Proofs.Ytmgpiminicgbiaa
