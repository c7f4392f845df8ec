/-
  No cell of these rows narrows 'for every input' (looked for: loops, veiled, ifaces, maps, wideKeys, modest, calm, conditions, laid).
  DERIVED. THE GIVEN ROWS OF THIS SEAT. 4 by the template 'for every input the law returns true; each argument reads behind the call as it read before'; 0 by the template 'total and deterministic' (their statements: YtmgpiminicgbiaaTotals.lean).
  GIVEN WITH THE SEED: the statements are not yours to turn. If you find one false, say at which input.
  Laid BY PROGRAM, IN A SANDBOX (cutbox-rows.mjs): the forced cells as the released guide's own fill.sh prints them over the translation 389fec5a1640412c… (all of the seat's roots in one cut). By AI agents, Wed Nov 11 2026. No macro, syntax, notation, axiom, sorry.
-/
import Derived.Test.YtmgpiminicgbiaaChecked
import GoSem.Claim
import GoSem.ClaimJoined
import GoSem.ClaimMapViews
import Derived.JoinedTies
import Derived.KernelRfl
namespace Go.Proofs.Ytmgpiminicgbiaa
/- THE CELL 'sum', in the pinned program and in every row, IS THE sha256 OF THE DUMP (.gsa) THAT YtmgpiminicgbiaaProg.lean LOADS. Nothing in Lean hashes anything: it is a label: what it is worth is what the hold of that sum in a sandbox is worth. -/
noncomputable def Try.pinned : Pinned := { name := "ytmgpiminicgbiaa", sum := "389fec5a1640412c0f2d043d3a3d0abcc2be2acd7bcfacfe37fa684391ad603f", checked := Try.checked }
namespace Rows
def none {H : Type} : Left H := { results := [], args := [] }

/-- 'refitlaw07.LogCrashes': WHATEVER THE INPUT: true; the input reads as it did. -/
def logCrashesSpec : ChangeSpec := { name := "logCrashes", fn := fun _ => fun
  | [d1, d2] => { results := [.lit (.bool true)], args := [d1, d2] }
  | _ => none }
def logCrashesRow : OpenClaim := { program := "ytmgpiminicgbiaa", sum := "389fec5a1640412c0f2d043d3a3d0abcc2be2acd7bcfacfe37fa684391ad603f", func := "refit/refitlaw07.LogCrashes", spec := "logCrashes", unfollowed := true, recurses := true, apart := false }
def LogCrashesSaid : Prop := logCrashesRow.holds Try.pinned (OpenSpec.ofChange logCrashesSpec)

/-- ITS FALSE NEIGHBOUR: 'it returns false'. Refute it at one input. -/
def logCrashesWrong : ChangeSpec := { name := "logCrashes", fn := fun _ => fun
  | [d1, d2] => { results := [.lit (.bool false)], args := [d1, d2] }
  | _ => none }
def LogCrashesWrongFalsely : Prop := logCrashesRow.holds Try.pinned (OpenSpec.ofChange logCrashesWrong)

/-- 'refitlaw07.LogRooms': WHATEVER THE INPUT: true; the input reads as it did. -/
def logRoomsSpec : ChangeSpec := { name := "logRooms", fn := fun _ => fun
  | [d1, d2] => { results := [.lit (.bool true)], args := [d1, d2] }
  | _ => none }
def logRoomsRow : OpenClaim := { program := "ytmgpiminicgbiaa", sum := "389fec5a1640412c0f2d043d3a3d0abcc2be2acd7bcfacfe37fa684391ad603f", func := "refit/refitlaw07.LogRooms", spec := "logRooms", unfollowed := true, recurses := true, apart := false }
def LogRoomsSaid : Prop := logRoomsRow.holds Try.pinned (OpenSpec.ofChange logRoomsSpec)

/-- ITS FALSE NEIGHBOUR: 'it returns false'. Refute it at one input. -/
def logRoomsWrong : ChangeSpec := { name := "logRooms", fn := fun _ => fun
  | [d1, d2] => { results := [.lit (.bool false)], args := [d1, d2] }
  | _ => none }
def LogRoomsWrongFalsely : Prop := logRoomsRow.holds Try.pinned (OpenSpec.ofChange logRoomsWrong)

/-- 'refitlaw07.LogEpochs': WHATEVER THE INPUT: true; the input reads as it did. -/
def logEpochsSpec : ChangeSpec := { name := "logEpochs", fn := fun _ => fun
  | [d] => { results := [.lit (.bool true)], args := [d] }
  | _ => none }
def logEpochsRow : OpenClaim := { program := "ytmgpiminicgbiaa", sum := "389fec5a1640412c0f2d043d3a3d0abcc2be2acd7bcfacfe37fa684391ad603f", func := "refit/refitlaw07.LogEpochs", spec := "logEpochs", unfollowed := true, recurses := true, apart := false }
def LogEpochsSaid : Prop := logEpochsRow.holds Try.pinned (OpenSpec.ofChange logEpochsSpec)

/-- ITS FALSE NEIGHBOUR: 'it returns false'. Refute it at one input. -/
def logEpochsWrong : ChangeSpec := { name := "logEpochs", fn := fun _ => fun
  | [d] => { results := [.lit (.bool false)], args := [d] }
  | _ => none }
def LogEpochsWrongFalsely : Prop := logEpochsRow.holds Try.pinned (OpenSpec.ofChange logEpochsWrong)

/-- 'refitlaw07.LogPlays': WHATEVER THE INPUT: true; the input reads as it did. -/
def logPlaysSpec : ChangeSpec := { name := "logPlays", fn := fun _ => fun
  | [d1, d2] => { results := [.lit (.bool true)], args := [d1, d2] }
  | _ => none }
def logPlaysRow : OpenClaim := { program := "ytmgpiminicgbiaa", sum := "389fec5a1640412c0f2d043d3a3d0abcc2be2acd7bcfacfe37fa684391ad603f", func := "refit/refitlaw07.LogPlays", spec := "logPlays", unfollowed := true, recurses := true, apart := false }
def LogPlaysSaid : Prop := logPlaysRow.holds Try.pinned (OpenSpec.ofChange logPlaysSpec)

/-- ITS FALSE NEIGHBOUR: 'it returns false'. Refute it at one input. -/
def logPlaysWrong : ChangeSpec := { name := "logPlays", fn := fun _ => fun
  | [d1, d2] => { results := [.lit (.bool false)], args := [d1, d2] }
  | _ => none }
def LogPlaysWrongFalsely : Prop := logPlaysRow.holds Try.pinned (OpenSpec.ofChange logPlaysWrong)

/- THE SECOND FORM. 'bulk': how many values and letters a reading holds, each counted each time it is reached (what is shared counts as often as it is met; a slice's spare places count too). A statement '..UptoSaid' is the law's where the arguments, and the package variables that the reading takes, are together of bulk at most 1048576: NARROWER than '..Said'. Prove '..Said' where nothing that the law and all that it calls make is longer than what came in: it says more and counts as full. Else prove '..UptoSaid'. A law counts once. -/
mutual
def uptoBulk {H : Type} : DataW H → Nat
  | .lit (.string bytes) => bytes.length + 1
  | .lit _ => 1
  | .nil => 1
  | .ptr d => uptoBulk d + 1
  | .slice elems spare => uptoBulkAll elems + uptoBulkAll spare + 1
  | .agg parts => uptoBulkAll parts + 1
  | .iface _ d => uptoBulk d + 1
  | .map entries => uptoBulkEntries entries + 1
  | .held _ => 1
def uptoBulkAll {H : Type} : List (DataW H) → Nat
  | [] => 0
  | d :: r => uptoBulk d + uptoBulkAll r
def uptoBulkEntries {H : Type} : List (Lit × DataW H) → Nat
  | [] => 0
  | x :: r => uptoBulkEntry x + uptoBulkEntries r
def uptoBulkEntry {H : Type} : Lit × DataW H → Nat
  | (.string bytes, d) => bytes.length + uptoBulk d + 1
  | (_, d) => uptoBulk d + 1
 end
def uptoSmall : (H : Type) → List (DataW H) → Bool := fun _ ds => decide (uptoBulkAll ds ≤ 1048576)
def OpenSpec.upto (s : _root_.Go.ChangeSpec) : _root_.Go.OpenSpec := { _root_.Go.OpenSpec.ofChange s with cond := some uptoSmall }

/-- 'refitlaw07.LogCrashes', WHERE WHAT IT READS IS OF BULK AT MOST 1048576: true; the input reads as it did. -/
def logCrashesUptoRow : OpenClaim := { program := "ytmgpiminicgbiaa", sum := "389fec5a1640412c0f2d043d3a3d0abcc2be2acd7bcfacfe37fa684391ad603f", func := "refit/refitlaw07.LogCrashes", spec := "logCrashes", unfollowed := true, recurses := true, apart := false, narrowed := true }
def LogCrashesUptoSaid : Prop := logCrashesUptoRow.holds Try.pinned (OpenSpec.upto logCrashesSpec)

/-- 'refitlaw07.LogRooms', WHERE WHAT IT READS IS OF BULK AT MOST 1048576: true; the input reads as it did. -/
def logRoomsUptoRow : OpenClaim := { program := "ytmgpiminicgbiaa", sum := "389fec5a1640412c0f2d043d3a3d0abcc2be2acd7bcfacfe37fa684391ad603f", func := "refit/refitlaw07.LogRooms", spec := "logRooms", unfollowed := true, recurses := true, apart := false, narrowed := true }
def LogRoomsUptoSaid : Prop := logRoomsUptoRow.holds Try.pinned (OpenSpec.upto logRoomsSpec)

/-- 'refitlaw07.LogEpochs', WHERE WHAT IT READS IS OF BULK AT MOST 1048576: true; the input reads as it did. -/
def logEpochsUptoRow : OpenClaim := { program := "ytmgpiminicgbiaa", sum := "389fec5a1640412c0f2d043d3a3d0abcc2be2acd7bcfacfe37fa684391ad603f", func := "refit/refitlaw07.LogEpochs", spec := "logEpochs", unfollowed := true, recurses := true, apart := false, narrowed := true }
def LogEpochsUptoSaid : Prop := logEpochsUptoRow.holds Try.pinned (OpenSpec.upto logEpochsSpec)

/-- 'refitlaw07.LogPlays', WHERE WHAT IT READS IS OF BULK AT MOST 1048576: true; the input reads as it did. -/
def logPlaysUptoRow : OpenClaim := { program := "ytmgpiminicgbiaa", sum := "389fec5a1640412c0f2d043d3a3d0abcc2be2acd7bcfacfe37fa684391ad603f", func := "refit/refitlaw07.LogPlays", spec := "logPlays", unfollowed := true, recurses := true, apart := false, narrowed := true }
def LogPlaysUptoSaid : Prop := logPlaysUptoRow.holds Try.pinned (OpenSpec.upto logPlaysSpec)

end Rows
end Go.Proofs.Ytmgpiminicgbiaa
