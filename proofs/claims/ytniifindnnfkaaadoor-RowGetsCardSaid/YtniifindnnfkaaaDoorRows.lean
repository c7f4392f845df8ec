/-
  NARROWER THAN 'FOR EVERY INPUT', by the rows' own cells (each row's printed sentence says how): RowPuts: laid · RowParses: laid · RowGets: laid · RowSets: laid.
  DERIVED. THE GIVEN ROWS OF THIS SEAT. 4 by the template 'for every input the law returns true; each argument reads behind the call as it read before'; 0 by the template 'total and deterministic' (their statements: YtniifindnnfkaaaDoorTotals.lean).
  GIVEN WITH THE SEED: the statements are not yours to turn. If you find one false, say at which input.
  Laid BY PROGRAM, IN A SANDBOX (cutbox-rows.mjs): the forced cells as the released guide's own fill.sh prints them over the translation af0cec242b918922… (all of the seat's roots in one cut). By AI agents, Wed Nov 11 2026. No macro, syntax, notation, axiom, sorry.
-/
import Derived.Test.YtniifindnnfkaaaDoorChecked
import GoSem.PinnedTables
import GoSem.Claim
import GoSem.ClaimJoined
import GoSem.ClaimMapViews
import Derived.JoinedTies
import Derived.KernelRfl
namespace Go.Proofs.YtniifindnnfkaaaDoor
/- THE CELL 'sum', in the pinned program and in every row, IS THE sha256 OF THE DUMP (.gsa) THAT YtniifindnnfkaaaDoorProg.lean LOADS. Nothing in Lean hashes anything: it is a label: what it is worth is what the hold of that sum in a sandbox is worth. -/
noncomputable def Tryd.pinned : Pinned := { name := "ytniifindnnfkaaadoor", sum := "af0cec242b918922bc66cf955ac713f5f99e1179aad3a371903a2249afd38cfc", checked := Tryd.checked }
namespace Rows
def none {H : Type} : Left H := { results := [], args := [] }

/- WHAT THE LISTED PACKAGE-LEVEL VARIABLES READ AS WHEN THE CALL BEGINS. Each datum BY PROGRAM (the guide's laid-datum.mjs) off the statement by which the dump's own 'gosem.cut.vars' lays the variable. In a bare row this is a premise. The card (YtniifindnnfkaaaDoorCards.lean) ties it to the program's text. -/
def laid_unicode_utf8_acceptRanges {H : Type} : DataW H := .agg [.agg [.lit (.int .u8 128), .lit (.int .u8 191)], .agg [.lit (.int .u8 160), .lit (.int .u8 191)], .agg [.lit (.int .u8 128), .lit (.int .u8 159)], .agg [.lit (.int .u8 144), .lit (.int .u8 191)], .agg [.lit (.int .u8 128), .lit (.int .u8 143)], .agg [.lit (.int .u8 0), .lit (.int .u8 0)], .agg [.lit (.int .u8 0), .lit (.int .u8 0)], .agg [.lit (.int .u8 0), .lit (.int .u8 0)], .agg [.lit (.int .u8 0), .lit (.int .u8 0)], .agg [.lit (.int .u8 0), .lit (.int .u8 0)], .agg [.lit (.int .u8 0), .lit (.int .u8 0)], .agg [.lit (.int .u8 0), .lit (.int .u8 0)], .agg [.lit (.int .u8 0), .lit (.int .u8 0)], .agg [.lit (.int .u8 0), .lit (.int .u8 0)], .agg [.lit (.int .u8 0), .lit (.int .u8 0)], .agg [.lit (.int .u8 0), .lit (.int .u8 0)]]
/-- One of Go's own tables, pinned by name: the form's constant. -/
def laid_unicode_utf8_first : DataW Unit := Go.Pinned.utf8First

/-- 'refitlaw11.RowPuts': WHATEVER THE INPUT: true; the input reads as it did. -/
def rowPutsSpec : ChangeSpec := { name := "rowPuts", fn := fun _ => fun
  | [d] => { results := [.lit (.bool true)], args := [d] }
  | _ => none }
def rowPutsRow : OpenClaim := { program := "ytniifindnnfkaaadoor", sum := "af0cec242b918922bc66cf955ac713f5f99e1179aad3a371903a2249afd38cfc", func := "refit/refitlaw11.RowPuts", spec := "rowPuts", inPlace := ["slices.overlaps[refit/api.Cell]"], unfollowed := true, recurses := true, named := ["unicode/utf8.first", "unicode/utf8.acceptRanges"], apart := false, laid := [("unicode/utf8.acceptRanges", laid_unicode_utf8_acceptRanges), ("unicode/utf8.first", laid_unicode_utf8_first)] }
def RowPutsSaid : Prop := rowPutsRow.holds Tryd.pinned (OpenSpec.ofChange rowPutsSpec)

/-- ITS FALSE NEIGHBOUR: 'it returns false'. Refute it at one input. -/
def rowPutsWrong : ChangeSpec := { name := "rowPuts", fn := fun _ => fun
  | [d] => { results := [.lit (.bool false)], args := [d] }
  | _ => none }
def RowPutsWrongFalsely : Prop := rowPutsRow.holds Tryd.pinned (OpenSpec.ofChange rowPutsWrong)

/-- 'refitlaw11.RowParses': WHATEVER THE INPUT: true; the input reads as it did. -/
def rowParsesSpec : ChangeSpec := { name := "rowParses", fn := fun _ => fun
  | [d] => { results := [.lit (.bool true)], args := [d] }
  | _ => none }
def rowParsesRow : OpenClaim := { program := "ytniifindnnfkaaadoor", sum := "af0cec242b918922bc66cf955ac713f5f99e1179aad3a371903a2249afd38cfc", func := "refit/refitlaw11.RowParses", spec := "rowParses", inPlace := ["slices.overlaps[refit/api.Cell]"], unfollowed := true, recurses := true, named := ["unicode/utf8.first", "unicode/utf8.acceptRanges"], apart := false, laid := [("unicode/utf8.acceptRanges", laid_unicode_utf8_acceptRanges), ("unicode/utf8.first", laid_unicode_utf8_first)] }
def RowParsesSaid : Prop := rowParsesRow.holds Tryd.pinned (OpenSpec.ofChange rowParsesSpec)

/-- ITS FALSE NEIGHBOUR: 'it returns false'. Refute it at one input. -/
def rowParsesWrong : ChangeSpec := { name := "rowParses", fn := fun _ => fun
  | [d] => { results := [.lit (.bool false)], args := [d] }
  | _ => none }
def RowParsesWrongFalsely : Prop := rowParsesRow.holds Tryd.pinned (OpenSpec.ofChange rowParsesWrong)

/-- 'refitlaw11.RowGets': WHATEVER THE INPUT: true; the input reads as it did. -/
def rowGetsSpec : ChangeSpec := { name := "rowGets", fn := fun _ => fun
  | [d1, d2] => { results := [.lit (.bool true)], args := [d1, d2] }
  | _ => none }
def rowGetsRow : OpenClaim := { program := "ytniifindnnfkaaadoor", sum := "af0cec242b918922bc66cf955ac713f5f99e1179aad3a371903a2249afd38cfc", func := "refit/refitlaw11.RowGets", spec := "rowGets", inPlace := ["slices.overlaps[refit/api.Cell]"], unfollowed := true, recurses := true, named := ["unicode/utf8.first", "unicode/utf8.acceptRanges"], apart := false, laid := [("unicode/utf8.acceptRanges", laid_unicode_utf8_acceptRanges), ("unicode/utf8.first", laid_unicode_utf8_first)] }
def RowGetsSaid : Prop := rowGetsRow.holds Tryd.pinned (OpenSpec.ofChange rowGetsSpec)

/-- ITS FALSE NEIGHBOUR: 'it returns false'. Refute it at one input. -/
def rowGetsWrong : ChangeSpec := { name := "rowGets", fn := fun _ => fun
  | [d1, d2] => { results := [.lit (.bool false)], args := [d1, d2] }
  | _ => none }
def RowGetsWrongFalsely : Prop := rowGetsRow.holds Tryd.pinned (OpenSpec.ofChange rowGetsWrong)

/-- 'refitlaw11.RowSets': WHATEVER THE INPUT: true; the input reads as it did. -/
def rowSetsSpec : ChangeSpec := { name := "rowSets", fn := fun _ => fun
  | [d1, d2, d3] => { results := [.lit (.bool true)], args := [d1, d2, d3] }
  | _ => none }
def rowSetsRow : OpenClaim := { program := "ytniifindnnfkaaadoor", sum := "af0cec242b918922bc66cf955ac713f5f99e1179aad3a371903a2249afd38cfc", func := "refit/refitlaw11.RowSets", spec := "rowSets", inPlace := ["slices.overlaps[refit/api.Cell]"], unfollowed := true, recurses := true, named := ["unicode/utf8.first", "unicode/utf8.acceptRanges"], apart := false, laid := [("unicode/utf8.acceptRanges", laid_unicode_utf8_acceptRanges), ("unicode/utf8.first", laid_unicode_utf8_first)] }
def RowSetsSaid : Prop := rowSetsRow.holds Tryd.pinned (OpenSpec.ofChange rowSetsSpec)

/-- ITS FALSE NEIGHBOUR: 'it returns false'. Refute it at one input. -/
def rowSetsWrong : ChangeSpec := { name := "rowSets", fn := fun _ => fun
  | [d1, d2, d3] => { results := [.lit (.bool false)], args := [d1, d2, d3] }
  | _ => none }
def RowSetsWrongFalsely : Prop := rowSetsRow.holds Tryd.pinned (OpenSpec.ofChange rowSetsWrong)

/- THE SECOND FORM. 'bulk': how many values and letters a reading holds, each counted each time it is reached (what is shared counts as often as it is met; a slice's spare places count too). A statement '..UptoSaid' is the law's where the arguments, and the package variables that the reading takes, are together of bulk at most 1048576: NARROWER than '..Said'. Prove '..Said' where nothing that the law and all that it calls make is longer than what came in: it says more and counts as full. Else prove '..UptoSaid'. A law counts once. -/
mutual
def uptoBulk {H : Type} : DataW H → Nat
  | .lit (.string bytes) => bytes.length + 1
  | .lit _ => 1
  | .nil => 1
  | .ptr d => uptoBulk d + 1
  | .slice elems spare => uptoBulkAll elems + uptoBulkAll spare + 1
  | .agg parts => uptoBulkAll parts + 1
  | .iface _ d => uptoBulk d + 1
  | .map entries => uptoBulkEntries entries + 1
  | .held _ => 1
def uptoBulkAll {H : Type} : List (DataW H) → Nat
  | [] => 0
  | d :: r => uptoBulk d + uptoBulkAll r
def uptoBulkEntries {H : Type} : List (Lit × DataW H) → Nat
  | [] => 0
  | x :: r => uptoBulkEntry x + uptoBulkEntries r
def uptoBulkEntry {H : Type} : Lit × DataW H → Nat
  | (.string bytes, d) => bytes.length + uptoBulk d + 1
  | (_, d) => uptoBulk d + 1
 end
def uptoSmall : (H : Type) → List (DataW H) → Bool := fun _ ds => decide (uptoBulkAll ds ≤ 1048576)
def OpenSpec.upto (s : _root_.Go.ChangeSpec) : _root_.Go.OpenSpec := { _root_.Go.OpenSpec.ofChange s with cond := some uptoSmall }

/-- 'refitlaw11.RowPuts', WHERE WHAT IT READS IS OF BULK AT MOST 1048576: true; the input reads as it did. -/
def rowPutsUptoRow : OpenClaim := { program := "ytniifindnnfkaaadoor", sum := "af0cec242b918922bc66cf955ac713f5f99e1179aad3a371903a2249afd38cfc", func := "refit/refitlaw11.RowPuts", spec := "rowPuts", inPlace := ["slices.overlaps[refit/api.Cell]"], unfollowed := true, recurses := true, named := ["unicode/utf8.first", "unicode/utf8.acceptRanges"], apart := false, laid := [("unicode/utf8.acceptRanges", laid_unicode_utf8_acceptRanges), ("unicode/utf8.first", laid_unicode_utf8_first)], narrowed := true }
def RowPutsUptoSaid : Prop := rowPutsUptoRow.holds Tryd.pinned (OpenSpec.upto rowPutsSpec)

/-- 'refitlaw11.RowParses', WHERE WHAT IT READS IS OF BULK AT MOST 1048576: true; the input reads as it did. -/
def rowParsesUptoRow : OpenClaim := { program := "ytniifindnnfkaaadoor", sum := "af0cec242b918922bc66cf955ac713f5f99e1179aad3a371903a2249afd38cfc", func := "refit/refitlaw11.RowParses", spec := "rowParses", inPlace := ["slices.overlaps[refit/api.Cell]"], unfollowed := true, recurses := true, named := ["unicode/utf8.first", "unicode/utf8.acceptRanges"], apart := false, laid := [("unicode/utf8.acceptRanges", laid_unicode_utf8_acceptRanges), ("unicode/utf8.first", laid_unicode_utf8_first)], narrowed := true }
def RowParsesUptoSaid : Prop := rowParsesUptoRow.holds Tryd.pinned (OpenSpec.upto rowParsesSpec)

/-- 'refitlaw11.RowGets', WHERE WHAT IT READS IS OF BULK AT MOST 1048576: true; the input reads as it did. -/
def rowGetsUptoRow : OpenClaim := { program := "ytniifindnnfkaaadoor", sum := "af0cec242b918922bc66cf955ac713f5f99e1179aad3a371903a2249afd38cfc", func := "refit/refitlaw11.RowGets", spec := "rowGets", inPlace := ["slices.overlaps[refit/api.Cell]"], unfollowed := true, recurses := true, named := ["unicode/utf8.first", "unicode/utf8.acceptRanges"], apart := false, laid := [("unicode/utf8.acceptRanges", laid_unicode_utf8_acceptRanges), ("unicode/utf8.first", laid_unicode_utf8_first)], narrowed := true }
def RowGetsUptoSaid : Prop := rowGetsUptoRow.holds Tryd.pinned (OpenSpec.upto rowGetsSpec)

/-- 'refitlaw11.RowSets', WHERE WHAT IT READS IS OF BULK AT MOST 1048576: true; the input reads as it did. -/
def rowSetsUptoRow : OpenClaim := { program := "ytniifindnnfkaaadoor", sum := "af0cec242b918922bc66cf955ac713f5f99e1179aad3a371903a2249afd38cfc", func := "refit/refitlaw11.RowSets", spec := "rowSets", inPlace := ["slices.overlaps[refit/api.Cell]"], unfollowed := true, recurses := true, named := ["unicode/utf8.first", "unicode/utf8.acceptRanges"], apart := false, laid := [("unicode/utf8.acceptRanges", laid_unicode_utf8_acceptRanges), ("unicode/utf8.first", laid_unicode_utf8_first)], narrowed := true }
def RowSetsUptoSaid : Prop := rowSetsUptoRow.holds Tryd.pinned (OpenSpec.upto rowSetsSpec)

end Rows
end Go.Proofs.YtniifindnnfkaaaDoor
