/-
  DERIVED. GIVEN WITH THE SEED: THE CARDS: each row of YthfjddhjmcjocaaDoorRows.lean that lists a variable, with what it lists TIED to the program's text (the seventh form; the later family's looks); each row that meets fmt, with fmt's text TOLD by the authors' own Lean function (tested against real Go, not proved from fmt's source: count such statements apart). THE CARD IS WHAT COUNTS. Prove the row's statement (the work); the ties are given (YthfjddhjmcjocaaDoorTie.lean); close each card by the builder's one call (the guide's Derived/Test/ToyasCard.lean, 'card_holds'). Laid BY PROGRAM, IN A SANDBOX (cutbox-door.mjs). By AI agents, Wed Nov 11 2026. No macro, syntax, notation, axiom, sorry.
-/
import Derived.Test.YthfjddhjmcjocaaDoorRows
import GoSem.ClaimSeven
namespace Go.Proofs.YthfjddhjmcjocaaDoor
namespace Rows

/-- THE TIED CARD OF 'culvertlaw08.GrantSum'. -/
def grantSumCard : Claim7 := { stood := { row := grantSumRow, standIns := [], harness := (true, "1188b1bdb3cbce5d0877f82f9be6c09c6d56d829b088119566d01d99b9f1ca1a"), looks := true }, kinds := [], alts := [], laidByText := true, laidKinds := [.sentinel, .sentinel, .sentinel, .sentinel], laidTests := true, laidLooks := .later }
def GrantSumCardSaid : Prop := Claim7.holds Tryd.pinned (.plain (OpenSpec.ofChange grantSumSpec)) grantSumCard

/-- THE TIED CARD OF 'culvertlaw08.GrantAnswers'. -/
def grantAnswersCard : Claim7 := { stood := { row := grantAnswersRow, standIns := [], harness := (true, "1188b1bdb3cbce5d0877f82f9be6c09c6d56d829b088119566d01d99b9f1ca1a"), looks := true }, kinds := [], alts := [], laidByText := true, laidKinds := [.sentinel, .sentinel, .sentinel, .sentinel, .sentinel, .sentinel, .sentinel, .sentinel, .sentinel, .sentinel, .sentinel, .sentinel, .sentinel, .sentinel, .sentinel, .sentinel, .sentinel, .sentinel, .sentinel, .sentinel, .sentinel, .sentinel, .sentinel, .sentinel, .sentinel, .sentinel, .sentinel, .sentinel, .sentinel, .sentinel, .sentinel, .sentinel, .sentinel, .sentinel, .sentinel, .sentinel, .sentinel, .sentinel, .sentinel, .sentinel, .sentinel, .sentinel], laidTests := true, laidLooks := .later }
def GrantAnswersCardSaid : Prop := Claim7.holds Tryd.pinned (.plain (OpenSpec.ofChange grantAnswersSpec)) grantAnswersCard

/-- THE SECOND FORM's CARD OF 'culvertlaw08.GrantSum'. -/
def grantSumUptoCard : Claim7 := { stood := { row := grantSumUptoRow, standIns := [], harness := (true, "1188b1bdb3cbce5d0877f82f9be6c09c6d56d829b088119566d01d99b9f1ca1a"), looks := true }, kinds := [], alts := [], laidByText := true, laidKinds := [.sentinel, .sentinel, .sentinel, .sentinel], laidTests := true, laidLooks := .later }
def GrantSumUptoCardSaid : Prop := Claim7.holds Tryd.pinned (.plain (OpenSpec.upto grantSumSpec)) grantSumUptoCard

/-- THE SECOND FORM's CARD OF 'culvertlaw08.GrantAnswers'. -/
def grantAnswersUptoCard : Claim7 := { stood := { row := grantAnswersUptoRow, standIns := [], harness := (true, "1188b1bdb3cbce5d0877f82f9be6c09c6d56d829b088119566d01d99b9f1ca1a"), looks := true }, kinds := [], alts := [], laidByText := true, laidKinds := [.sentinel, .sentinel, .sentinel, .sentinel, .sentinel, .sentinel, .sentinel, .sentinel, .sentinel, .sentinel, .sentinel, .sentinel, .sentinel, .sentinel, .sentinel, .sentinel, .sentinel, .sentinel, .sentinel, .sentinel, .sentinel, .sentinel, .sentinel, .sentinel, .sentinel, .sentinel, .sentinel, .sentinel, .sentinel, .sentinel, .sentinel, .sentinel, .sentinel, .sentinel, .sentinel, .sentinel, .sentinel, .sentinel, .sentinel, .sentinel, .sentinel, .sentinel], laidTests := true, laidLooks := .later }
def GrantAnswersUptoCardSaid : Prop := Claim7.holds Tryd.pinned (.plain (OpenSpec.upto grantAnswersSpec)) grantAnswersUptoCard
end Rows
end Go.Proofs.YthfjddhjmcjocaaDoor
