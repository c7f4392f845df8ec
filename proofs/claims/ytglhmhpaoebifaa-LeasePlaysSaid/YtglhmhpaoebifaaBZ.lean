import Derived.Test.YtglhmhpaoebifaaBX
namespace Go.Proofs.Ytglhmhpaoebifaa
set_option linter.unusedVariables false
set_option linter.unusedSimpArgs false
open Go.RowKit
theorem plays_in (l : List LeaseS) (h : l.length ≤ maxLen ∧ ∀ x ∈ l, i64L x) (sc : List Op15S) (hs : sc.length ≤ maxLen ∧ ∀ x ∈ sc, i64O x) (now : Int) (_ : -9223372036854775808 ≤ now ∧ now ≤ 9223372036854775807) : ACalls Try.prog 5 [.fs 3 l.length (leasesA l), .fs 4 sc.length (ops15A sc), .c (.int .i64 now)] [] (fun _ => false) (fun r h' => r = .c (.bool true)) := plays_of l h sc hs now
end Go.Proofs.Ytglhmhpaoebifaa
