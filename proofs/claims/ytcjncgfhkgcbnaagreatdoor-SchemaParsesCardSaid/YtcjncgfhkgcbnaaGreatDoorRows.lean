/-
  NARROWER THAN 'FOR EVERY INPUT', by the rows' own cells (each row's printed sentence says how): SchemaPuts: laid · SchemaParses: laid · SchemaFinds: laid · SchemaCopies: laid · JobClimbs: laid · JobEnds: laid.
  DERIVED. THE GIVEN ROWS OF THIS SEAT. 6 by the template 'for every input the law returns true; each argument reads behind the call as it read before'; 0 by the template 'total and deterministic' (their statements: YtcjncgfhkgcbnaaGreatDoorTotals.lean).
  GIVEN WITH THE SEED: the statements are not yours to turn. If you find one false, say at which input.
  Laid BY PROGRAM, IN A SANDBOX (cutbox-rows.mjs): the forced cells as the released guide's own fill.sh prints them over the translation 21bba007e9390b6a… (all of the seat's roots in one cut). By AI agents, Wed Nov 11 2026. No macro, syntax, notation, axiom, sorry.
-/
import Derived.Test.YtcjncgfhkgcbnaaGreatDoorChecked
import GoSem.PinnedTables
import GoSem.Claim
import GoSem.ClaimJoined
import GoSem.ClaimMapViews
import Derived.JoinedTies
import Derived.KernelRfl
namespace Go.Proofs.YtcjncgfhkgcbnaaGreatDoor
/- THE CELL 'sum', in the pinned program and in every row, IS THE sha256 OF THE DUMP (.gsa) THAT YtcjncgfhkgcbnaaGreatDoorProg.lean LOADS. Nothing in Lean hashes anything: it is a label: what it is worth is what the hold of that sum in a sandbox is worth. -/
noncomputable def Tryz.pinned : Pinned := { name := "ytcjncgfhkgcbnaagreatdoor", sum := "21bba007e9390b6a8c68ca986280ab5d5bc64517acd35d02d8ba228080bf0c88", checked := Tryz.checked }
namespace Rows
def none {H : Type} : Left H := { results := [], args := [] }

/- WHAT THE LISTED PACKAGE-LEVEL VARIABLES READ AS WHEN THE CALL BEGINS. Each datum BY PROGRAM (the guide's laid-datum.mjs) off the statement by which the dump's own 'gosem.cut.vars' lays the variable. In a bare row this is a premise. The card (YtcjncgfhkgcbnaaGreatDoorCards.lean) ties it to the program's text. -/
def laid_unicode_utf8_acceptRanges {H : Type} : DataW H := .agg [.agg [.lit (.int .u8 128), .lit (.int .u8 191)], .agg [.lit (.int .u8 160), .lit (.int .u8 191)], .agg [.lit (.int .u8 128), .lit (.int .u8 159)], .agg [.lit (.int .u8 144), .lit (.int .u8 191)], .agg [.lit (.int .u8 128), .lit (.int .u8 143)], .agg [.lit (.int .u8 0), .lit (.int .u8 0)], .agg [.lit (.int .u8 0), .lit (.int .u8 0)], .agg [.lit (.int .u8 0), .lit (.int .u8 0)], .agg [.lit (.int .u8 0), .lit (.int .u8 0)], .agg [.lit (.int .u8 0), .lit (.int .u8 0)], .agg [.lit (.int .u8 0), .lit (.int .u8 0)], .agg [.lit (.int .u8 0), .lit (.int .u8 0)], .agg [.lit (.int .u8 0), .lit (.int .u8 0)], .agg [.lit (.int .u8 0), .lit (.int .u8 0)], .agg [.lit (.int .u8 0), .lit (.int .u8 0)], .agg [.lit (.int .u8 0), .lit (.int .u8 0)]]
/-- One of Go's own tables, pinned by name: the form's constant. -/
def laid_unicode_utf8_first : DataW Unit := Go.Pinned.utf8First

/-- 'refitlaw12.SchemaPuts': WHATEVER THE INPUT: true; the input reads as it did. -/
def schemaPutsSpec : ChangeSpec := { name := "schemaPuts", fn := fun _ => fun
  | [d] => { results := [.lit (.bool true)], args := [d] }
  | _ => none }
def schemaPutsRow : OpenClaim := { program := "ytcjncgfhkgcbnaagreatdoor", sum := "21bba007e9390b6a8c68ca986280ab5d5bc64517acd35d02d8ba228080bf0c88", func := "refit/refitlaw12.SchemaPuts", spec := "schemaPuts", inPlace := ["slices.overlaps[refit/api.Cell]"], unfollowed := true, recurses := true, named := ["unicode/utf8.first", "unicode/utf8.acceptRanges"], plainKeys := false, apart := false, laid := [("unicode/utf8.acceptRanges", laid_unicode_utf8_acceptRanges), ("unicode/utf8.first", laid_unicode_utf8_first)] }
def SchemaPutsSaid : Prop := schemaPutsRow.holds Tryz.pinned (OpenSpec.ofChange schemaPutsSpec)

/-- ITS FALSE NEIGHBOUR: 'it returns false'. Refute it at one input. -/
def schemaPutsWrong : ChangeSpec := { name := "schemaPuts", fn := fun _ => fun
  | [d] => { results := [.lit (.bool false)], args := [d] }
  | _ => none }
def SchemaPutsWrongFalsely : Prop := schemaPutsRow.holds Tryz.pinned (OpenSpec.ofChange schemaPutsWrong)

/-- 'refitlaw12.SchemaParses': WHATEVER THE INPUT: true; the input reads as it did. -/
def schemaParsesSpec : ChangeSpec := { name := "schemaParses", fn := fun _ => fun
  | [d] => { results := [.lit (.bool true)], args := [d] }
  | _ => none }
def schemaParsesRow : OpenClaim := { program := "ytcjncgfhkgcbnaagreatdoor", sum := "21bba007e9390b6a8c68ca986280ab5d5bc64517acd35d02d8ba228080bf0c88", func := "refit/refitlaw12.SchemaParses", spec := "schemaParses", inPlace := ["slices.overlaps[refit/api.Cell]"], unfollowed := true, recurses := true, named := ["unicode/utf8.first", "unicode/utf8.acceptRanges"], plainKeys := false, apart := false, laid := [("unicode/utf8.acceptRanges", laid_unicode_utf8_acceptRanges), ("unicode/utf8.first", laid_unicode_utf8_first)] }
def SchemaParsesSaid : Prop := schemaParsesRow.holds Tryz.pinned (OpenSpec.ofChange schemaParsesSpec)

/-- ITS FALSE NEIGHBOUR: 'it returns false'. Refute it at one input. -/
def schemaParsesWrong : ChangeSpec := { name := "schemaParses", fn := fun _ => fun
  | [d] => { results := [.lit (.bool false)], args := [d] }
  | _ => none }
def SchemaParsesWrongFalsely : Prop := schemaParsesRow.holds Tryz.pinned (OpenSpec.ofChange schemaParsesWrong)

/-- 'refitlaw12.SchemaFinds': WHATEVER THE INPUT: true; the input reads as it did. -/
def schemaFindsSpec : ChangeSpec := { name := "schemaFinds", fn := fun _ => fun
  | [d1, d2, d3] => { results := [.lit (.bool true)], args := [d1, d2, d3] }
  | _ => none }
def schemaFindsRow : OpenClaim := { program := "ytcjncgfhkgcbnaagreatdoor", sum := "21bba007e9390b6a8c68ca986280ab5d5bc64517acd35d02d8ba228080bf0c88", func := "refit/refitlaw12.SchemaFinds", spec := "schemaFinds", inPlace := ["slices.overlaps[refit/api.Cell]"], unfollowed := true, recurses := true, named := ["unicode/utf8.first", "unicode/utf8.acceptRanges"], plainKeys := false, apart := false, laid := [("unicode/utf8.acceptRanges", laid_unicode_utf8_acceptRanges), ("unicode/utf8.first", laid_unicode_utf8_first)] }
def SchemaFindsSaid : Prop := schemaFindsRow.holds Tryz.pinned (OpenSpec.ofChange schemaFindsSpec)

/-- ITS FALSE NEIGHBOUR: 'it returns false'. Refute it at one input. -/
def schemaFindsWrong : ChangeSpec := { name := "schemaFinds", fn := fun _ => fun
  | [d1, d2, d3] => { results := [.lit (.bool false)], args := [d1, d2, d3] }
  | _ => none }
def SchemaFindsWrongFalsely : Prop := schemaFindsRow.holds Tryz.pinned (OpenSpec.ofChange schemaFindsWrong)

/-- 'refitlaw12.SchemaCopies': WHATEVER THE INPUT: true; the input reads as it did. -/
def schemaCopiesSpec : ChangeSpec := { name := "schemaCopies", fn := fun _ => fun
  | [d1, d2] => { results := [.lit (.bool true)], args := [d1, d2] }
  | _ => none }
def schemaCopiesRow : OpenClaim := { program := "ytcjncgfhkgcbnaagreatdoor", sum := "21bba007e9390b6a8c68ca986280ab5d5bc64517acd35d02d8ba228080bf0c88", func := "refit/refitlaw12.SchemaCopies", spec := "schemaCopies", inPlace := ["slices.overlaps[refit/api.Cell]"], unfollowed := true, recurses := true, named := ["unicode/utf8.first", "unicode/utf8.acceptRanges"], plainKeys := false, apart := false, laid := [("unicode/utf8.acceptRanges", laid_unicode_utf8_acceptRanges), ("unicode/utf8.first", laid_unicode_utf8_first)] }
def SchemaCopiesSaid : Prop := schemaCopiesRow.holds Tryz.pinned (OpenSpec.ofChange schemaCopiesSpec)

/-- ITS FALSE NEIGHBOUR: 'it returns false'. Refute it at one input. -/
def schemaCopiesWrong : ChangeSpec := { name := "schemaCopies", fn := fun _ => fun
  | [d1, d2] => { results := [.lit (.bool false)], args := [d1, d2] }
  | _ => none }
def SchemaCopiesWrongFalsely : Prop := schemaCopiesRow.holds Tryz.pinned (OpenSpec.ofChange schemaCopiesWrong)

/-- 'refitlaw16.JobClimbs': WHATEVER THE INPUT: true; the input reads as it did. -/
def jobClimbsSpec : ChangeSpec := { name := "jobClimbs", fn := fun _ => fun
  | [d1, d2] => { results := [.lit (.bool true)], args := [d1, d2] }
  | _ => none }
def jobClimbsRow : OpenClaim := { program := "ytcjncgfhkgcbnaagreatdoor", sum := "21bba007e9390b6a8c68ca986280ab5d5bc64517acd35d02d8ba228080bf0c88", func := "refit/refitlaw16.JobClimbs", spec := "jobClimbs", inPlace := ["slices.overlaps[refit/api.Cell]"], unfollowed := true, recurses := true, named := ["unicode/utf8.first", "unicode/utf8.acceptRanges"], plainKeys := false, apart := false, laid := [("unicode/utf8.acceptRanges", laid_unicode_utf8_acceptRanges), ("unicode/utf8.first", laid_unicode_utf8_first)] }
def JobClimbsSaid : Prop := jobClimbsRow.holds Tryz.pinned (OpenSpec.ofChange jobClimbsSpec)

/-- ITS FALSE NEIGHBOUR: 'it returns false'. Refute it at one input. -/
def jobClimbsWrong : ChangeSpec := { name := "jobClimbs", fn := fun _ => fun
  | [d1, d2] => { results := [.lit (.bool false)], args := [d1, d2] }
  | _ => none }
def JobClimbsWrongFalsely : Prop := jobClimbsRow.holds Tryz.pinned (OpenSpec.ofChange jobClimbsWrong)

/-- 'refitlaw16.JobEnds': WHATEVER THE INPUT: true; the input reads as it did. -/
def jobEndsSpec : ChangeSpec := { name := "jobEnds", fn := fun _ => fun
  | [d1, d2] => { results := [.lit (.bool true)], args := [d1, d2] }
  | _ => none }
def jobEndsRow : OpenClaim := { program := "ytcjncgfhkgcbnaagreatdoor", sum := "21bba007e9390b6a8c68ca986280ab5d5bc64517acd35d02d8ba228080bf0c88", func := "refit/refitlaw16.JobEnds", spec := "jobEnds", inPlace := ["slices.overlaps[refit/api.Cell]"], unfollowed := true, recurses := true, named := ["unicode/utf8.first", "unicode/utf8.acceptRanges"], plainKeys := false, apart := false, laid := [("unicode/utf8.acceptRanges", laid_unicode_utf8_acceptRanges), ("unicode/utf8.first", laid_unicode_utf8_first)] }
def JobEndsSaid : Prop := jobEndsRow.holds Tryz.pinned (OpenSpec.ofChange jobEndsSpec)

/-- ITS FALSE NEIGHBOUR: 'it returns false'. Refute it at one input. -/
def jobEndsWrong : ChangeSpec := { name := "jobEnds", fn := fun _ => fun
  | [d1, d2] => { results := [.lit (.bool false)], args := [d1, d2] }
  | _ => none }
def JobEndsWrongFalsely : Prop := jobEndsRow.holds Tryz.pinned (OpenSpec.ofChange jobEndsWrong)

/- THE SECOND FORM. 'bulk': how many values and letters a reading holds, each counted each time it is reached (what is shared counts as often as it is met; a slice's spare places count too). A statement '..UptoSaid' is the law's where the arguments, and the package variables that the reading takes, are together of bulk at most 1048576: NARROWER than '..Said'. Prove '..Said' where nothing that the law and all that it calls make is longer than what came in: it says more and counts as full. Else prove '..UptoSaid'. A law counts once. -/
mutual
def uptoBulk {H : Type} : DataW H → Nat
  | .lit (.string bytes) => bytes.length + 1
  | .lit _ => 1
  | .nil => 1
  | .ptr d => uptoBulk d + 1
  | .slice elems spare => uptoBulkAll elems + uptoBulkAll spare + 1
  | .agg parts => uptoBulkAll parts + 1
  | .iface _ d => uptoBulk d + 1
  | .map entries => uptoBulkEntries entries + 1
  | .held _ => 1
def uptoBulkAll {H : Type} : List (DataW H) → Nat
  | [] => 0
  | d :: r => uptoBulk d + uptoBulkAll r
def uptoBulkEntries {H : Type} : List (Lit × DataW H) → Nat
  | [] => 0
  | x :: r => uptoBulkEntry x + uptoBulkEntries r
def uptoBulkEntry {H : Type} : Lit × DataW H → Nat
  | (.string bytes, d) => bytes.length + uptoBulk d + 1
  | (_, d) => uptoBulk d + 1
 end
def uptoSmall : (H : Type) → List (DataW H) → Bool := fun _ ds => decide (uptoBulkAll ds ≤ 1048576)
def OpenSpec.upto (s : _root_.Go.ChangeSpec) : _root_.Go.OpenSpec := { _root_.Go.OpenSpec.ofChange s with cond := some uptoSmall }

/-- 'refitlaw12.SchemaPuts', WHERE WHAT IT READS IS OF BULK AT MOST 1048576: true; the input reads as it did. -/
def schemaPutsUptoRow : OpenClaim := { program := "ytcjncgfhkgcbnaagreatdoor", sum := "21bba007e9390b6a8c68ca986280ab5d5bc64517acd35d02d8ba228080bf0c88", func := "refit/refitlaw12.SchemaPuts", spec := "schemaPuts", inPlace := ["slices.overlaps[refit/api.Cell]"], unfollowed := true, recurses := true, named := ["unicode/utf8.first", "unicode/utf8.acceptRanges"], plainKeys := false, apart := false, laid := [("unicode/utf8.acceptRanges", laid_unicode_utf8_acceptRanges), ("unicode/utf8.first", laid_unicode_utf8_first)], narrowed := true }
def SchemaPutsUptoSaid : Prop := schemaPutsUptoRow.holds Tryz.pinned (OpenSpec.upto schemaPutsSpec)

/-- 'refitlaw12.SchemaParses', WHERE WHAT IT READS IS OF BULK AT MOST 1048576: true; the input reads as it did. -/
def schemaParsesUptoRow : OpenClaim := { program := "ytcjncgfhkgcbnaagreatdoor", sum := "21bba007e9390b6a8c68ca986280ab5d5bc64517acd35d02d8ba228080bf0c88", func := "refit/refitlaw12.SchemaParses", spec := "schemaParses", inPlace := ["slices.overlaps[refit/api.Cell]"], unfollowed := true, recurses := true, named := ["unicode/utf8.first", "unicode/utf8.acceptRanges"], plainKeys := false, apart := false, laid := [("unicode/utf8.acceptRanges", laid_unicode_utf8_acceptRanges), ("unicode/utf8.first", laid_unicode_utf8_first)], narrowed := true }
def SchemaParsesUptoSaid : Prop := schemaParsesUptoRow.holds Tryz.pinned (OpenSpec.upto schemaParsesSpec)

/-- 'refitlaw12.SchemaFinds', WHERE WHAT IT READS IS OF BULK AT MOST 1048576: true; the input reads as it did. -/
def schemaFindsUptoRow : OpenClaim := { program := "ytcjncgfhkgcbnaagreatdoor", sum := "21bba007e9390b6a8c68ca986280ab5d5bc64517acd35d02d8ba228080bf0c88", func := "refit/refitlaw12.SchemaFinds", spec := "schemaFinds", inPlace := ["slices.overlaps[refit/api.Cell]"], unfollowed := true, recurses := true, named := ["unicode/utf8.first", "unicode/utf8.acceptRanges"], plainKeys := false, apart := false, laid := [("unicode/utf8.acceptRanges", laid_unicode_utf8_acceptRanges), ("unicode/utf8.first", laid_unicode_utf8_first)], narrowed := true }
def SchemaFindsUptoSaid : Prop := schemaFindsUptoRow.holds Tryz.pinned (OpenSpec.upto schemaFindsSpec)

/-- 'refitlaw12.SchemaCopies', WHERE WHAT IT READS IS OF BULK AT MOST 1048576: true; the input reads as it did. -/
def schemaCopiesUptoRow : OpenClaim := { program := "ytcjncgfhkgcbnaagreatdoor", sum := "21bba007e9390b6a8c68ca986280ab5d5bc64517acd35d02d8ba228080bf0c88", func := "refit/refitlaw12.SchemaCopies", spec := "schemaCopies", inPlace := ["slices.overlaps[refit/api.Cell]"], unfollowed := true, recurses := true, named := ["unicode/utf8.first", "unicode/utf8.acceptRanges"], plainKeys := false, apart := false, laid := [("unicode/utf8.acceptRanges", laid_unicode_utf8_acceptRanges), ("unicode/utf8.first", laid_unicode_utf8_first)], narrowed := true }
def SchemaCopiesUptoSaid : Prop := schemaCopiesUptoRow.holds Tryz.pinned (OpenSpec.upto schemaCopiesSpec)

/-- 'refitlaw16.JobClimbs', WHERE WHAT IT READS IS OF BULK AT MOST 1048576: true; the input reads as it did. -/
def jobClimbsUptoRow : OpenClaim := { program := "ytcjncgfhkgcbnaagreatdoor", sum := "21bba007e9390b6a8c68ca986280ab5d5bc64517acd35d02d8ba228080bf0c88", func := "refit/refitlaw16.JobClimbs", spec := "jobClimbs", inPlace := ["slices.overlaps[refit/api.Cell]"], unfollowed := true, recurses := true, named := ["unicode/utf8.first", "unicode/utf8.acceptRanges"], plainKeys := false, apart := false, laid := [("unicode/utf8.acceptRanges", laid_unicode_utf8_acceptRanges), ("unicode/utf8.first", laid_unicode_utf8_first)], narrowed := true }
def JobClimbsUptoSaid : Prop := jobClimbsUptoRow.holds Tryz.pinned (OpenSpec.upto jobClimbsSpec)

/-- 'refitlaw16.JobEnds', WHERE WHAT IT READS IS OF BULK AT MOST 1048576: true; the input reads as it did. -/
def jobEndsUptoRow : OpenClaim := { program := "ytcjncgfhkgcbnaagreatdoor", sum := "21bba007e9390b6a8c68ca986280ab5d5bc64517acd35d02d8ba228080bf0c88", func := "refit/refitlaw16.JobEnds", spec := "jobEnds", inPlace := ["slices.overlaps[refit/api.Cell]"], unfollowed := true, recurses := true, named := ["unicode/utf8.first", "unicode/utf8.acceptRanges"], plainKeys := false, apart := false, laid := [("unicode/utf8.acceptRanges", laid_unicode_utf8_acceptRanges), ("unicode/utf8.first", laid_unicode_utf8_first)], narrowed := true }
def JobEndsUptoSaid : Prop := jobEndsUptoRow.holds Tryz.pinned (OpenSpec.upto jobEndsSpec)

end Rows
end Go.Proofs.YtcjncgfhkgcbnaaGreatDoor
