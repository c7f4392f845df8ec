/-
  No cell of these rows narrows 'for every input' (looked for: loops, veiled, ifaces, maps, wideKeys, modest, calm, conditions, laid).
  DERIVED. THE GIVEN ROWS OF THIS SEAT. 4 by the template 'for every input the law returns true; each argument reads behind the call as it read before'; 0 by the template 'total and deterministic' (their statements: YtjkllofkdhjlaaaTotals.lean).
  GIVEN WITH THE SEED: the statements are not yours to turn. If you find one false, say at which input.
  Laid BY PROGRAM, IN A SANDBOX (cutbox-rows.mjs): the forced cells as the released guide's own fill.sh prints them over the translation f88177614db0793b… (all of the seat's roots in one cut). By AI agents, Wed Nov 11 2026. No macro, syntax, notation, axiom, sorry.
-/
import Derived.Test.YtjkllofkdhjlaaaChecked
import GoSem.Claim
import GoSem.ClaimJoined
import GoSem.ClaimMapViews
import Derived.JoinedTies
import Derived.KernelRfl
namespace Go.Proofs.Ytjkllofkdhjlaaa
/- THE CELL 'sum', in the pinned program and in every row, IS THE sha256 OF THE DUMP (.gsa) THAT YtjkllofkdhjlaaaProg.lean LOADS. Nothing in Lean hashes anything: it is a label: what it is worth is what the hold of that sum in a sandbox is worth. -/
noncomputable def Try.pinned : Pinned := { name := "ytjkllofkdhjlaaa", sum := "f88177614db0793bd1bb1094adbb5c5c96eaca70c35f889081d0a64c11372ac7", checked := Try.checked }
namespace Rows
def none {H : Type} : Left H := { results := [], args := [] }

/-- 'refitlaw06.SectorPlays': WHATEVER THE INPUT: true; the input reads as it did. -/
def sectorPlaysSpec : ChangeSpec := { name := "sectorPlays", fn := fun _ => fun
  | [d1, d2] => { results := [.lit (.bool true)], args := [d1, d2] }
  | _ => none }
def sectorPlaysRow : OpenClaim := { program := "ytjkllofkdhjlaaa", sum := "f88177614db0793bd1bb1094adbb5c5c96eaca70c35f889081d0a64c11372ac7", func := "refit/refitlaw06.SectorPlays", spec := "sectorPlays", unfollowed := true, recurses := true, apart := false }
def SectorPlaysSaid : Prop := sectorPlaysRow.holds Try.pinned (OpenSpec.ofChange sectorPlaysSpec)

/-- ITS FALSE NEIGHBOUR: 'it returns false'. Refute it at one input. -/
def sectorPlaysWrong : ChangeSpec := { name := "sectorPlays", fn := fun _ => fun
  | [d1, d2] => { results := [.lit (.bool false)], args := [d1, d2] }
  | _ => none }
def SectorPlaysWrongFalsely : Prop := sectorPlaysRow.holds Try.pinned (OpenSpec.ofChange sectorPlaysWrong)

/-- 'refitlaw06.SectorMakes': WHATEVER THE INPUT: true; the input reads as it did. -/
def sectorMakesSpec : ChangeSpec := { name := "sectorMakes", fn := fun _ => fun
  | [d] => { results := [.lit (.bool true)], args := [d] }
  | _ => none }
def sectorMakesRow : OpenClaim := { program := "ytjkllofkdhjlaaa", sum := "f88177614db0793bd1bb1094adbb5c5c96eaca70c35f889081d0a64c11372ac7", func := "refit/refitlaw06.SectorMakes", spec := "sectorMakes", unfollowed := true, recurses := true, apart := false }
def SectorMakesSaid : Prop := sectorMakesRow.holds Try.pinned (OpenSpec.ofChange sectorMakesSpec)

/-- ITS FALSE NEIGHBOUR: 'it returns false'. Refute it at one input. -/
def sectorMakesWrong : ChangeSpec := { name := "sectorMakes", fn := fun _ => fun
  | [d] => { results := [.lit (.bool false)], args := [d] }
  | _ => none }
def SectorMakesWrongFalsely : Prop := sectorMakesRow.holds Try.pinned (OpenSpec.ofChange sectorMakesWrong)

/-- 'refitlaw06.SectorTears': WHATEVER THE INPUT: true; the input reads as it did. -/
def sectorTearsSpec : ChangeSpec := { name := "sectorTears", fn := fun _ => fun
  | [d1, d2, d3] => { results := [.lit (.bool true)], args := [d1, d2, d3] }
  | _ => none }
def sectorTearsRow : OpenClaim := { program := "ytjkllofkdhjlaaa", sum := "f88177614db0793bd1bb1094adbb5c5c96eaca70c35f889081d0a64c11372ac7", func := "refit/refitlaw06.SectorTears", spec := "sectorTears", unfollowed := true, recurses := true, apart := false }
def SectorTearsSaid : Prop := sectorTearsRow.holds Try.pinned (OpenSpec.ofChange sectorTearsSpec)

/-- ITS FALSE NEIGHBOUR: 'it returns false'. Refute it at one input. -/
def sectorTearsWrong : ChangeSpec := { name := "sectorTears", fn := fun _ => fun
  | [d1, d2, d3] => { results := [.lit (.bool false)], args := [d1, d2, d3] }
  | _ => none }
def SectorTearsWrongFalsely : Prop := sectorTearsRow.holds Try.pinned (OpenSpec.ofChange sectorTearsWrong)

/-- 'refitlaw06.SectorAlone': WHATEVER THE INPUT: true; the input reads as it did. -/
def sectorAloneSpec : ChangeSpec := { name := "sectorAlone", fn := fun _ => fun
  | [d1, d2] => { results := [.lit (.bool true)], args := [d1, d2] }
  | _ => none }
def sectorAloneRow : OpenClaim := { program := "ytjkllofkdhjlaaa", sum := "f88177614db0793bd1bb1094adbb5c5c96eaca70c35f889081d0a64c11372ac7", func := "refit/refitlaw06.SectorAlone", spec := "sectorAlone", unfollowed := true, recurses := true, apart := false }
def SectorAloneSaid : Prop := sectorAloneRow.holds Try.pinned (OpenSpec.ofChange sectorAloneSpec)

/-- ITS FALSE NEIGHBOUR: 'it returns false'. Refute it at one input. -/
def sectorAloneWrong : ChangeSpec := { name := "sectorAlone", fn := fun _ => fun
  | [d1, d2] => { results := [.lit (.bool false)], args := [d1, d2] }
  | _ => none }
def SectorAloneWrongFalsely : Prop := sectorAloneRow.holds Try.pinned (OpenSpec.ofChange sectorAloneWrong)

/- THE SECOND FORM. 'bulk': how many values and letters a reading holds, each counted each time it is reached (what is shared counts as often as it is met; a slice's spare places count too). A statement '..UptoSaid' is the law's where the arguments, and the package variables that the reading takes, are together of bulk at most 1048576: NARROWER than '..Said'. Prove '..Said' where nothing that the law and all that it calls make is longer than what came in: it says more and counts as full. Else prove '..UptoSaid'. A law counts once. -/
mutual
def uptoBulk {H : Type} : DataW H → Nat
  | .lit (.string bytes) => bytes.length + 1
  | .lit _ => 1
  | .nil => 1
  | .ptr d => uptoBulk d + 1
  | .slice elems spare => uptoBulkAll elems + uptoBulkAll spare + 1
  | .agg parts => uptoBulkAll parts + 1
  | .iface _ d => uptoBulk d + 1
  | .map entries => uptoBulkEntries entries + 1
  | .held _ => 1
def uptoBulkAll {H : Type} : List (DataW H) → Nat
  | [] => 0
  | d :: r => uptoBulk d + uptoBulkAll r
def uptoBulkEntries {H : Type} : List (Lit × DataW H) → Nat
  | [] => 0
  | x :: r => uptoBulkEntry x + uptoBulkEntries r
def uptoBulkEntry {H : Type} : Lit × DataW H → Nat
  | (.string bytes, d) => bytes.length + uptoBulk d + 1
  | (_, d) => uptoBulk d + 1
 end
def uptoSmall : (H : Type) → List (DataW H) → Bool := fun _ ds => decide (uptoBulkAll ds ≤ 1048576)
def OpenSpec.upto (s : _root_.Go.ChangeSpec) : _root_.Go.OpenSpec := { _root_.Go.OpenSpec.ofChange s with cond := some uptoSmall }

/-- 'refitlaw06.SectorPlays', WHERE WHAT IT READS IS OF BULK AT MOST 1048576: true; the input reads as it did. -/
def sectorPlaysUptoRow : OpenClaim := { program := "ytjkllofkdhjlaaa", sum := "f88177614db0793bd1bb1094adbb5c5c96eaca70c35f889081d0a64c11372ac7", func := "refit/refitlaw06.SectorPlays", spec := "sectorPlays", unfollowed := true, recurses := true, apart := false, narrowed := true }
def SectorPlaysUptoSaid : Prop := sectorPlaysUptoRow.holds Try.pinned (OpenSpec.upto sectorPlaysSpec)

/-- 'refitlaw06.SectorMakes', WHERE WHAT IT READS IS OF BULK AT MOST 1048576: true; the input reads as it did. -/
def sectorMakesUptoRow : OpenClaim := { program := "ytjkllofkdhjlaaa", sum := "f88177614db0793bd1bb1094adbb5c5c96eaca70c35f889081d0a64c11372ac7", func := "refit/refitlaw06.SectorMakes", spec := "sectorMakes", unfollowed := true, recurses := true, apart := false, narrowed := true }
def SectorMakesUptoSaid : Prop := sectorMakesUptoRow.holds Try.pinned (OpenSpec.upto sectorMakesSpec)

/-- 'refitlaw06.SectorTears', WHERE WHAT IT READS IS OF BULK AT MOST 1048576: true; the input reads as it did. -/
def sectorTearsUptoRow : OpenClaim := { program := "ytjkllofkdhjlaaa", sum := "f88177614db0793bd1bb1094adbb5c5c96eaca70c35f889081d0a64c11372ac7", func := "refit/refitlaw06.SectorTears", spec := "sectorTears", unfollowed := true, recurses := true, apart := false, narrowed := true }
def SectorTearsUptoSaid : Prop := sectorTearsUptoRow.holds Try.pinned (OpenSpec.upto sectorTearsSpec)

/-- 'refitlaw06.SectorAlone', WHERE WHAT IT READS IS OF BULK AT MOST 1048576: true; the input reads as it did. -/
def sectorAloneUptoRow : OpenClaim := { program := "ytjkllofkdhjlaaa", sum := "f88177614db0793bd1bb1094adbb5c5c96eaca70c35f889081d0a64c11372ac7", func := "refit/refitlaw06.SectorAlone", spec := "sectorAlone", unfollowed := true, recurses := true, apart := false, narrowed := true }
def SectorAloneUptoSaid : Prop := sectorAloneUptoRow.holds Try.pinned (OpenSpec.upto sectorAloneSpec)

end Rows
end Go.Proofs.Ytjkllofkdhjlaaa
