/-
  NARROWER THAN 'FOR EVERY INPUT', by the rows' own cells (each row's printed sentence says how): LadderGrows: laid · LadderSteps: laid · LadderLegal: laid · SchemaCopies: laid · JobClimbs: laid · JobEnds: laid.
  DERIVED. THE GIVEN ROWS OF THIS SEAT. 6 by the template 'for every input the law returns true; each argument reads behind the call as it read before'; 0 by the template 'total and deterministic' (their statements: YthgoocdldnkogaaGreatDoorTotals.lean).
  GIVEN WITH THE SEED: the statements are not yours to turn. If you find one false, say at which input.
  Laid BY PROGRAM, IN A SANDBOX (cutbox-rows.mjs): the forced cells as the released guide's own fill.sh prints them over the translation 89dfde476701d6a3… (all of the seat's roots in one cut). By AI agents, Wed Nov 11 2026. No macro, syntax, notation, axiom, sorry.
-/
import Derived.Test.YthgoocdldnkogaaGreatDoorChecked
import GoSem.PinnedTables
import GoSem.Claim
import GoSem.ClaimJoined
import GoSem.ClaimMapViews
import Derived.JoinedTies
import Derived.KernelRfl
namespace Go.Proofs.YthgoocdldnkogaaGreatDoor
/- THE CELL 'sum', in the pinned program and in every row, IS THE sha256 OF THE DUMP (.gsa) THAT YthgoocdldnkogaaGreatDoorProg.lean LOADS. Nothing in Lean hashes anything: it is a label: what it is worth is what the hold of that sum in a sandbox is worth. -/
noncomputable def Tryz.pinned : Pinned := { name := "ythgoocdldnkogaagreatdoor", sum := "89dfde476701d6a31e996daeb83792e96c8faacca55b0fa81ad57edbe49f3e9f", checked := Tryz.checked }
namespace Rows
def none {H : Type} : Left H := { results := [], args := [] }

/- WHAT THE LISTED PACKAGE-LEVEL VARIABLES READ AS WHEN THE CALL BEGINS. Each datum BY PROGRAM (the guide's laid-datum.mjs) off the statement by which the dump's own 'gosem.cut.vars' lays the variable. In a bare row this is a premise. The card (YthgoocdldnkogaaGreatDoorCards.lean) ties it to the program's text. -/
def laid_unicode_utf8_acceptRanges {H : Type} : DataW H := .agg [.agg [.lit (.int .u8 128), .lit (.int .u8 191)], .agg [.lit (.int .u8 160), .lit (.int .u8 191)], .agg [.lit (.int .u8 128), .lit (.int .u8 159)], .agg [.lit (.int .u8 144), .lit (.int .u8 191)], .agg [.lit (.int .u8 128), .lit (.int .u8 143)], .agg [.lit (.int .u8 0), .lit (.int .u8 0)], .agg [.lit (.int .u8 0), .lit (.int .u8 0)], .agg [.lit (.int .u8 0), .lit (.int .u8 0)], .agg [.lit (.int .u8 0), .lit (.int .u8 0)], .agg [.lit (.int .u8 0), .lit (.int .u8 0)], .agg [.lit (.int .u8 0), .lit (.int .u8 0)], .agg [.lit (.int .u8 0), .lit (.int .u8 0)], .agg [.lit (.int .u8 0), .lit (.int .u8 0)], .agg [.lit (.int .u8 0), .lit (.int .u8 0)], .agg [.lit (.int .u8 0), .lit (.int .u8 0)], .agg [.lit (.int .u8 0), .lit (.int .u8 0)]]
/-- One of Go's own tables, pinned by name: the form's constant. -/
def laid_unicode_utf8_first : DataW Unit := Go.Pinned.utf8First

/-- 'refitlaw14.LadderGrows': WHATEVER THE INPUT: true; the input reads as it did. -/
def ladderGrowsSpec : ChangeSpec := { name := "ladderGrows", fn := fun _ => fun
  | [d1, d2, d3] => { results := [.lit (.bool true)], args := [d1, d2, d3] }
  | _ => none }
def ladderGrowsRow : OpenClaim := { program := "ythgoocdldnkogaagreatdoor", sum := "89dfde476701d6a31e996daeb83792e96c8faacca55b0fa81ad57edbe49f3e9f", func := "refit/refitlaw14.LadderGrows", spec := "ladderGrows", unfollowed := true, recurses := true, named := ["unicode/utf8.first", "unicode/utf8.acceptRanges"], plainKeys := false, apart := false, laid := [("unicode/utf8.acceptRanges", laid_unicode_utf8_acceptRanges), ("unicode/utf8.first", laid_unicode_utf8_first)] }
def LadderGrowsSaid : Prop := ladderGrowsRow.holds Tryz.pinned (OpenSpec.ofChange ladderGrowsSpec)

/-- ITS FALSE NEIGHBOUR: 'it returns false'. Refute it at one input. -/
def ladderGrowsWrong : ChangeSpec := { name := "ladderGrows", fn := fun _ => fun
  | [d1, d2, d3] => { results := [.lit (.bool false)], args := [d1, d2, d3] }
  | _ => none }
def LadderGrowsWrongFalsely : Prop := ladderGrowsRow.holds Tryz.pinned (OpenSpec.ofChange ladderGrowsWrong)

/-- 'refitlaw14.LadderSteps': WHATEVER THE INPUT: true; the input reads as it did. -/
def ladderStepsSpec : ChangeSpec := { name := "ladderSteps", fn := fun _ => fun
  | [d1, d2] => { results := [.lit (.bool true)], args := [d1, d2] }
  | _ => none }
def ladderStepsRow : OpenClaim := { program := "ythgoocdldnkogaagreatdoor", sum := "89dfde476701d6a31e996daeb83792e96c8faacca55b0fa81ad57edbe49f3e9f", func := "refit/refitlaw14.LadderSteps", spec := "ladderSteps", unfollowed := true, recurses := true, named := ["unicode/utf8.first", "unicode/utf8.acceptRanges"], plainKeys := false, apart := false, laid := [("unicode/utf8.acceptRanges", laid_unicode_utf8_acceptRanges), ("unicode/utf8.first", laid_unicode_utf8_first)] }
def LadderStepsSaid : Prop := ladderStepsRow.holds Tryz.pinned (OpenSpec.ofChange ladderStepsSpec)

/-- ITS FALSE NEIGHBOUR: 'it returns false'. Refute it at one input. -/
def ladderStepsWrong : ChangeSpec := { name := "ladderSteps", fn := fun _ => fun
  | [d1, d2] => { results := [.lit (.bool false)], args := [d1, d2] }
  | _ => none }
def LadderStepsWrongFalsely : Prop := ladderStepsRow.holds Tryz.pinned (OpenSpec.ofChange ladderStepsWrong)

/-- 'refitlaw14.LadderLegal': WHATEVER THE INPUT: true; the input reads as it did. -/
def ladderLegalSpec : ChangeSpec := { name := "ladderLegal", fn := fun _ => fun
  | [d1, d2] => { results := [.lit (.bool true)], args := [d1, d2] }
  | _ => none }
def ladderLegalRow : OpenClaim := { program := "ythgoocdldnkogaagreatdoor", sum := "89dfde476701d6a31e996daeb83792e96c8faacca55b0fa81ad57edbe49f3e9f", func := "refit/refitlaw14.LadderLegal", spec := "ladderLegal", unfollowed := true, recurses := true, named := ["unicode/utf8.first", "unicode/utf8.acceptRanges"], plainKeys := false, apart := false, laid := [("unicode/utf8.acceptRanges", laid_unicode_utf8_acceptRanges), ("unicode/utf8.first", laid_unicode_utf8_first)] }
def LadderLegalSaid : Prop := ladderLegalRow.holds Tryz.pinned (OpenSpec.ofChange ladderLegalSpec)

/-- ITS FALSE NEIGHBOUR: 'it returns false'. Refute it at one input. -/
def ladderLegalWrong : ChangeSpec := { name := "ladderLegal", fn := fun _ => fun
  | [d1, d2] => { results := [.lit (.bool false)], args := [d1, d2] }
  | _ => none }
def LadderLegalWrongFalsely : Prop := ladderLegalRow.holds Tryz.pinned (OpenSpec.ofChange ladderLegalWrong)

/-- 'refitlaw12.SchemaCopies': WHATEVER THE INPUT: true; the input reads as it did. -/
def schemaCopiesSpec : ChangeSpec := { name := "schemaCopies", fn := fun _ => fun
  | [d1, d2] => { results := [.lit (.bool true)], args := [d1, d2] }
  | _ => none }
def schemaCopiesRow : OpenClaim := { program := "ythgoocdldnkogaagreatdoor", sum := "89dfde476701d6a31e996daeb83792e96c8faacca55b0fa81ad57edbe49f3e9f", func := "refit/refitlaw12.SchemaCopies", spec := "schemaCopies", inPlace := ["slices.overlaps[refit/api.Cell]"], unfollowed := true, recurses := true, named := ["unicode/utf8.first", "unicode/utf8.acceptRanges"], plainKeys := false, apart := false, laid := [("unicode/utf8.acceptRanges", laid_unicode_utf8_acceptRanges), ("unicode/utf8.first", laid_unicode_utf8_first)] }
def SchemaCopiesSaid : Prop := schemaCopiesRow.holds Tryz.pinned (OpenSpec.ofChange schemaCopiesSpec)

/-- ITS FALSE NEIGHBOUR: 'it returns false'. Refute it at one input. -/
def schemaCopiesWrong : ChangeSpec := { name := "schemaCopies", fn := fun _ => fun
  | [d1, d2] => { results := [.lit (.bool false)], args := [d1, d2] }
  | _ => none }
def SchemaCopiesWrongFalsely : Prop := schemaCopiesRow.holds Tryz.pinned (OpenSpec.ofChange schemaCopiesWrong)

/-- 'refitlaw16.JobClimbs': WHATEVER THE INPUT: true; the input reads as it did. -/
def jobClimbsSpec : ChangeSpec := { name := "jobClimbs", fn := fun _ => fun
  | [d1, d2] => { results := [.lit (.bool true)], args := [d1, d2] }
  | _ => none }
def jobClimbsRow : OpenClaim := { program := "ythgoocdldnkogaagreatdoor", sum := "89dfde476701d6a31e996daeb83792e96c8faacca55b0fa81ad57edbe49f3e9f", func := "refit/refitlaw16.JobClimbs", spec := "jobClimbs", inPlace := ["slices.overlaps[refit/api.Cell]"], unfollowed := true, recurses := true, named := ["unicode/utf8.first", "unicode/utf8.acceptRanges"], plainKeys := false, apart := false, laid := [("unicode/utf8.acceptRanges", laid_unicode_utf8_acceptRanges), ("unicode/utf8.first", laid_unicode_utf8_first)] }
def JobClimbsSaid : Prop := jobClimbsRow.holds Tryz.pinned (OpenSpec.ofChange jobClimbsSpec)

/-- ITS FALSE NEIGHBOUR: 'it returns false'. Refute it at one input. -/
def jobClimbsWrong : ChangeSpec := { name := "jobClimbs", fn := fun _ => fun
  | [d1, d2] => { results := [.lit (.bool false)], args := [d1, d2] }
  | _ => none }
def JobClimbsWrongFalsely : Prop := jobClimbsRow.holds Tryz.pinned (OpenSpec.ofChange jobClimbsWrong)

/-- 'refitlaw16.JobEnds': WHATEVER THE INPUT: true; the input reads as it did. -/
def jobEndsSpec : ChangeSpec := { name := "jobEnds", fn := fun _ => fun
  | [d1, d2] => { results := [.lit (.bool true)], args := [d1, d2] }
  | _ => none }
def jobEndsRow : OpenClaim := { program := "ythgoocdldnkogaagreatdoor", sum := "89dfde476701d6a31e996daeb83792e96c8faacca55b0fa81ad57edbe49f3e9f", func := "refit/refitlaw16.JobEnds", spec := "jobEnds", inPlace := ["slices.overlaps[refit/api.Cell]"], unfollowed := true, recurses := true, named := ["unicode/utf8.first", "unicode/utf8.acceptRanges"], plainKeys := false, apart := false, laid := [("unicode/utf8.acceptRanges", laid_unicode_utf8_acceptRanges), ("unicode/utf8.first", laid_unicode_utf8_first)] }
def JobEndsSaid : Prop := jobEndsRow.holds Tryz.pinned (OpenSpec.ofChange jobEndsSpec)

/-- ITS FALSE NEIGHBOUR: 'it returns false'. Refute it at one input. -/
def jobEndsWrong : ChangeSpec := { name := "jobEnds", fn := fun _ => fun
  | [d1, d2] => { results := [.lit (.bool false)], args := [d1, d2] }
  | _ => none }
def JobEndsWrongFalsely : Prop := jobEndsRow.holds Tryz.pinned (OpenSpec.ofChange jobEndsWrong)

/- THE SECOND FORM. 'bulk': how many values and letters a reading holds, each counted each time it is reached (what is shared counts as often as it is met; a slice's spare places count too). A statement '..UptoSaid' is the law's where the arguments, and the package variables that the reading takes, are together of bulk at most 1048576: NARROWER than '..Said'. Prove '..Said' where nothing that the law and all that it calls make is longer than what came in: it says more and counts as full. Else prove '..UptoSaid'. A law counts once. -/
mutual
def uptoBulk {H : Type} : DataW H → Nat
  | .lit (.string bytes) => bytes.length + 1
  | .lit _ => 1
  | .nil => 1
  | .ptr d => uptoBulk d + 1
  | .slice elems spare => uptoBulkAll elems + uptoBulkAll spare + 1
  | .agg parts => uptoBulkAll parts + 1
  | .iface _ d => uptoBulk d + 1
  | .map entries => uptoBulkEntries entries + 1
  | .held _ => 1
def uptoBulkAll {H : Type} : List (DataW H) → Nat
  | [] => 0
  | d :: r => uptoBulk d + uptoBulkAll r
def uptoBulkEntries {H : Type} : List (Lit × DataW H) → Nat
  | [] => 0
  | x :: r => uptoBulkEntry x + uptoBulkEntries r
def uptoBulkEntry {H : Type} : Lit × DataW H → Nat
  | (.string bytes, d) => bytes.length + uptoBulk d + 1
  | (_, d) => uptoBulk d + 1
 end
def uptoSmall : (H : Type) → List (DataW H) → Bool := fun _ ds => decide (uptoBulkAll ds ≤ 1048576)
def OpenSpec.upto (s : _root_.Go.ChangeSpec) : _root_.Go.OpenSpec := { _root_.Go.OpenSpec.ofChange s with cond := some uptoSmall }

/-- 'refitlaw14.LadderGrows', WHERE WHAT IT READS IS OF BULK AT MOST 1048576: true; the input reads as it did. -/
def ladderGrowsUptoRow : OpenClaim := { program := "ythgoocdldnkogaagreatdoor", sum := "89dfde476701d6a31e996daeb83792e96c8faacca55b0fa81ad57edbe49f3e9f", func := "refit/refitlaw14.LadderGrows", spec := "ladderGrows", unfollowed := true, recurses := true, named := ["unicode/utf8.first", "unicode/utf8.acceptRanges"], plainKeys := false, apart := false, laid := [("unicode/utf8.acceptRanges", laid_unicode_utf8_acceptRanges), ("unicode/utf8.first", laid_unicode_utf8_first)], narrowed := true }
def LadderGrowsUptoSaid : Prop := ladderGrowsUptoRow.holds Tryz.pinned (OpenSpec.upto ladderGrowsSpec)

/-- 'refitlaw14.LadderSteps', WHERE WHAT IT READS IS OF BULK AT MOST 1048576: true; the input reads as it did. -/
def ladderStepsUptoRow : OpenClaim := { program := "ythgoocdldnkogaagreatdoor", sum := "89dfde476701d6a31e996daeb83792e96c8faacca55b0fa81ad57edbe49f3e9f", func := "refit/refitlaw14.LadderSteps", spec := "ladderSteps", unfollowed := true, recurses := true, named := ["unicode/utf8.first", "unicode/utf8.acceptRanges"], plainKeys := false, apart := false, laid := [("unicode/utf8.acceptRanges", laid_unicode_utf8_acceptRanges), ("unicode/utf8.first", laid_unicode_utf8_first)], narrowed := true }
def LadderStepsUptoSaid : Prop := ladderStepsUptoRow.holds Tryz.pinned (OpenSpec.upto ladderStepsSpec)

/-- 'refitlaw14.LadderLegal', WHERE WHAT IT READS IS OF BULK AT MOST 1048576: true; the input reads as it did. -/
def ladderLegalUptoRow : OpenClaim := { program := "ythgoocdldnkogaagreatdoor", sum := "89dfde476701d6a31e996daeb83792e96c8faacca55b0fa81ad57edbe49f3e9f", func := "refit/refitlaw14.LadderLegal", spec := "ladderLegal", unfollowed := true, recurses := true, named := ["unicode/utf8.first", "unicode/utf8.acceptRanges"], plainKeys := false, apart := false, laid := [("unicode/utf8.acceptRanges", laid_unicode_utf8_acceptRanges), ("unicode/utf8.first", laid_unicode_utf8_first)], narrowed := true }
def LadderLegalUptoSaid : Prop := ladderLegalUptoRow.holds Tryz.pinned (OpenSpec.upto ladderLegalSpec)

/-- 'refitlaw12.SchemaCopies', WHERE WHAT IT READS IS OF BULK AT MOST 1048576: true; the input reads as it did. -/
def schemaCopiesUptoRow : OpenClaim := { program := "ythgoocdldnkogaagreatdoor", sum := "89dfde476701d6a31e996daeb83792e96c8faacca55b0fa81ad57edbe49f3e9f", func := "refit/refitlaw12.SchemaCopies", spec := "schemaCopies", inPlace := ["slices.overlaps[refit/api.Cell]"], unfollowed := true, recurses := true, named := ["unicode/utf8.first", "unicode/utf8.acceptRanges"], plainKeys := false, apart := false, laid := [("unicode/utf8.acceptRanges", laid_unicode_utf8_acceptRanges), ("unicode/utf8.first", laid_unicode_utf8_first)], narrowed := true }
def SchemaCopiesUptoSaid : Prop := schemaCopiesUptoRow.holds Tryz.pinned (OpenSpec.upto schemaCopiesSpec)

/-- 'refitlaw16.JobClimbs', WHERE WHAT IT READS IS OF BULK AT MOST 1048576: true; the input reads as it did. -/
def jobClimbsUptoRow : OpenClaim := { program := "ythgoocdldnkogaagreatdoor", sum := "89dfde476701d6a31e996daeb83792e96c8faacca55b0fa81ad57edbe49f3e9f", func := "refit/refitlaw16.JobClimbs", spec := "jobClimbs", inPlace := ["slices.overlaps[refit/api.Cell]"], unfollowed := true, recurses := true, named := ["unicode/utf8.first", "unicode/utf8.acceptRanges"], plainKeys := false, apart := false, laid := [("unicode/utf8.acceptRanges", laid_unicode_utf8_acceptRanges), ("unicode/utf8.first", laid_unicode_utf8_first)], narrowed := true }
def JobClimbsUptoSaid : Prop := jobClimbsUptoRow.holds Tryz.pinned (OpenSpec.upto jobClimbsSpec)

/-- 'refitlaw16.JobEnds', WHERE WHAT IT READS IS OF BULK AT MOST 1048576: true; the input reads as it did. -/
def jobEndsUptoRow : OpenClaim := { program := "ythgoocdldnkogaagreatdoor", sum := "89dfde476701d6a31e996daeb83792e96c8faacca55b0fa81ad57edbe49f3e9f", func := "refit/refitlaw16.JobEnds", spec := "jobEnds", inPlace := ["slices.overlaps[refit/api.Cell]"], unfollowed := true, recurses := true, named := ["unicode/utf8.first", "unicode/utf8.acceptRanges"], plainKeys := false, apart := false, laid := [("unicode/utf8.acceptRanges", laid_unicode_utf8_acceptRanges), ("unicode/utf8.first", laid_unicode_utf8_first)], narrowed := true }
def JobEndsUptoSaid : Prop := jobEndsUptoRow.holds Tryz.pinned (OpenSpec.upto jobEndsSpec)

end Rows
end Go.Proofs.YthgoocdldnkogaaGreatDoor
