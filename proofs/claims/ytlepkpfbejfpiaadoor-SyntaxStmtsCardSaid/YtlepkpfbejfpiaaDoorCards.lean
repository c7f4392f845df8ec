/-
  DERIVED. GIVEN WITH THE SEED: THE CARDS: each row of YtlepkpfbejfpiaaDoorRows.lean that lists a variable, with what it lists TIED to the program's text (the seventh form; the later family's looks); each row that meets fmt, with fmt's text TOLD by the authors' own Lean function (tested against real Go, not proved from fmt's source: count such statements apart). THE CARD IS WHAT COUNTS. Prove the row's statement (the work); the ties are given (YtlepkpfbejfpiaaDoorTie.lean); close each card by the builder's one call (the guide's Derived/Test/ToyasCard.lean, 'card_holds'). Laid BY PROGRAM, IN A SANDBOX (cutbox-door.mjs). By AI agents, Wed Nov 11 2026. No macro, syntax, notation, axiom, sorry.
-/
import Derived.Test.YtlepkpfbejfpiaaDoorRows
import GoSem.ClaimSeven
namespace Go.Proofs.YtlepkpfbejfpiaaDoor
namespace Rows

/-- THE TIED CARD OF 'refitlaw18.SyntaxExprs'. -/
def syntaxExprsCard : Claim7 := { stood := { row := syntaxExprsRow, standIns := [], harness := (true, "8673177f1e0d8618f28ee5ed5bc664ec1e8129ca1b33671a6bb640b02c9b264f"), looks := false }, kinds := [], alts := [], laidByText := true, laidKinds := [.data, .pinned], laidTests := true, laidLooks := .later }
def SyntaxExprsCardSaid : Prop := Claim7.holds Tryd.pinned (.plain (OpenSpec.ofChange syntaxExprsSpec)) syntaxExprsCard

/-- THE TIED CARD OF 'refitlaw18.SyntaxStmts'. -/
def syntaxStmtsCard : Claim7 := { stood := { row := syntaxStmtsRow, standIns := [], harness := (true, "8673177f1e0d8618f28ee5ed5bc664ec1e8129ca1b33671a6bb640b02c9b264f"), looks := false }, kinds := [], alts := [], laidByText := true, laidKinds := [.data, .pinned], laidTests := true, laidLooks := .later }
def SyntaxStmtsCardSaid : Prop := Claim7.holds Tryd.pinned (.plain (OpenSpec.ofChange syntaxStmtsSpec)) syntaxStmtsCard

/-- THE TIED CARD OF 'refitlaw18.SyntaxHigh'. -/
def syntaxHighCard : Claim7 := { stood := { row := syntaxHighRow, standIns := [], harness := (true, "8673177f1e0d8618f28ee5ed5bc664ec1e8129ca1b33671a6bb640b02c9b264f"), looks := false }, kinds := [], alts := [], laidByText := true, laidKinds := [.data, .pinned], laidTests := true, laidLooks := .later }
def SyntaxHighCardSaid : Prop := Claim7.holds Tryd.pinned (.plain (OpenSpec.ofChange syntaxHighSpec)) syntaxHighCard

/-- THE SECOND FORM's CARD OF 'refitlaw18.SyntaxExprs'. -/
def syntaxExprsUptoCard : Claim7 := { stood := { row := syntaxExprsUptoRow, standIns := [], harness := (true, "8673177f1e0d8618f28ee5ed5bc664ec1e8129ca1b33671a6bb640b02c9b264f"), looks := false }, kinds := [], alts := [], laidByText := true, laidKinds := [.data, .pinned], laidTests := true, laidLooks := .later }
def SyntaxExprsUptoCardSaid : Prop := Claim7.holds Tryd.pinned (.plain (OpenSpec.upto syntaxExprsSpec)) syntaxExprsUptoCard

/-- THE SECOND FORM's CARD OF 'refitlaw18.SyntaxStmts'. -/
def syntaxStmtsUptoCard : Claim7 := { stood := { row := syntaxStmtsUptoRow, standIns := [], harness := (true, "8673177f1e0d8618f28ee5ed5bc664ec1e8129ca1b33671a6bb640b02c9b264f"), looks := false }, kinds := [], alts := [], laidByText := true, laidKinds := [.data, .pinned], laidTests := true, laidLooks := .later }
def SyntaxStmtsUptoCardSaid : Prop := Claim7.holds Tryd.pinned (.plain (OpenSpec.upto syntaxStmtsSpec)) syntaxStmtsUptoCard

/-- THE SECOND FORM's CARD OF 'refitlaw18.SyntaxHigh'. -/
def syntaxHighUptoCard : Claim7 := { stood := { row := syntaxHighUptoRow, standIns := [], harness := (true, "8673177f1e0d8618f28ee5ed5bc664ec1e8129ca1b33671a6bb640b02c9b264f"), looks := false }, kinds := [], alts := [], laidByText := true, laidKinds := [.data, .pinned], laidTests := true, laidLooks := .later }
def SyntaxHighUptoCardSaid : Prop := Claim7.holds Tryd.pinned (.plain (OpenSpec.upto syntaxHighSpec)) syntaxHighUptoCard
end Rows
end Go.Proofs.YtlepkpfbejfpiaaDoor
