/-
  DERIVED. GIVEN WITH THE SEED: THE CARDS: each row of YtbabemamnakmiaaDoorRows.lean that lists a variable, with what it lists TIED to the program's text (the seventh form; the later family's looks); each row that meets fmt, with fmt's text TOLD by the authors' own Lean function (tested against real Go, not proved from fmt's source: count such statements apart). THE CARD IS WHAT COUNTS. Prove the row's statement (the work); the ties are given (YtbabemamnakmiaaDoorTie.lean); close each card by the builder's one call (the guide's Derived/Test/ToyasCard.lean, 'card_holds'). Laid BY PROGRAM, IN A SANDBOX (cutbox-door.mjs). By AI agents, Wed Nov 11 2026. No macro, syntax, notation, axiom, sorry.
-/
import Derived.Test.YtbabemamnakmiaaDoorRows
import GoSem.ClaimSeven
namespace Go.Proofs.YtbabemamnakmiaaDoor
namespace Rows

/-- THE TIED CARD OF 'culvertlaw07.CreditPlays'. -/
def creditPlaysCard : Claim7 := { stood := { row := creditPlaysRow, standIns := [], harness := (true, "b0cd31ebb5d8d2a428e8e8544b0a7dc1282025926dc5f26832cef66dcc8e89c3"), looks := true }, kinds := [], alts := [], laidByText := true, laidKinds := [.sentinel, .sentinel, .sentinel, .sentinel, .sentinel, .sentinel, .sentinel, .sentinel, .sentinel, .sentinel, .sentinel, .sentinel, .sentinel, .sentinel, .sentinel, .sentinel, .sentinel, .sentinel, .sentinel, .sentinel, .sentinel, .sentinel, .sentinel, .sentinel, .sentinel, .sentinel, .sentinel, .sentinel, .sentinel, .sentinel, .sentinel, .sentinel, .sentinel, .sentinel, .sentinel, .sentinel, .sentinel, .sentinel, .sentinel, .sentinel, .sentinel, .sentinel], laidTests := true, laidLooks := .later }
def CreditPlaysCardSaid : Prop := Claim7.holds Tryd.pinned (.plain (OpenSpec.ofChange creditPlaysSpec)) creditPlaysCard

/-- THE TIED CARD OF 'culvertlaw07.CreditNever'. -/
def creditNeverCard : Claim7 := { stood := { row := creditNeverRow, standIns := [], harness := (true, "b0cd31ebb5d8d2a428e8e8544b0a7dc1282025926dc5f26832cef66dcc8e89c3"), looks := true }, kinds := [], alts := [], laidByText := true, laidKinds := [.sentinel, .sentinel, .sentinel, .sentinel, .sentinel, .sentinel, .sentinel, .sentinel, .sentinel, .sentinel, .sentinel, .sentinel, .sentinel, .sentinel, .sentinel, .sentinel, .sentinel, .sentinel, .sentinel, .sentinel, .sentinel, .sentinel, .sentinel, .sentinel, .sentinel, .sentinel, .sentinel, .sentinel, .sentinel, .sentinel, .sentinel, .sentinel, .sentinel, .sentinel, .sentinel, .sentinel, .sentinel, .sentinel, .sentinel, .sentinel, .sentinel, .sentinel], laidTests := true, laidLooks := .later }
def CreditNeverCardSaid : Prop := Claim7.holds Tryd.pinned (.plain (OpenSpec.ofChange creditNeverSpec)) creditNeverCard

/-- THE TIED CARD OF 'culvertlaw07.CreditTwo'. -/
def creditTwoCard : Claim7 := { stood := { row := creditTwoRow, standIns := [], harness := (true, "b0cd31ebb5d8d2a428e8e8544b0a7dc1282025926dc5f26832cef66dcc8e89c3"), looks := true }, kinds := [], alts := [], laidByText := true, laidKinds := [.sentinel, .sentinel, .sentinel, .sentinel, .sentinel, .sentinel, .sentinel, .sentinel, .sentinel, .sentinel, .sentinel, .sentinel, .sentinel, .sentinel, .sentinel, .sentinel, .sentinel, .sentinel, .sentinel, .sentinel, .sentinel, .sentinel, .sentinel, .sentinel, .sentinel, .sentinel, .sentinel, .sentinel, .sentinel, .sentinel, .sentinel, .sentinel, .sentinel, .sentinel, .sentinel, .sentinel, .sentinel, .sentinel, .sentinel, .sentinel, .sentinel, .sentinel], laidTests := true, laidLooks := .later }
def CreditTwoCardSaid : Prop := Claim7.holds Tryd.pinned (.plain (OpenSpec.ofChange creditTwoSpec)) creditTwoCard

/-- THE TIED CARD OF 'culvertlaw08.GrantNames'. -/
def grantNamesCard : Claim7 := { stood := { row := grantNamesRow, standIns := [], harness := (true, "b0cd31ebb5d8d2a428e8e8544b0a7dc1282025926dc5f26832cef66dcc8e89c3"), looks := true }, kinds := [], alts := [], laidByText := true, laidKinds := [.sentinel, .sentinel, .sentinel, .sentinel, .sentinel, .sentinel, .sentinel, .sentinel, .sentinel, .sentinel, .sentinel, .sentinel, .sentinel, .sentinel, .sentinel, .sentinel, .sentinel, .sentinel, .sentinel, .sentinel, .sentinel, .sentinel, .sentinel, .sentinel, .sentinel, .sentinel, .sentinel, .sentinel, .sentinel, .sentinel, .sentinel, .sentinel, .sentinel, .sentinel, .sentinel, .sentinel, .sentinel, .sentinel, .sentinel, .sentinel, .sentinel, .sentinel], laidTests := true, laidLooks := .later }
def GrantNamesCardSaid : Prop := Claim7.holds Tryd.pinned (.plain (OpenSpec.ofChange grantNamesSpec)) grantNamesCard

/-- THE TIED CARD OF 'culvertlaw08.GrantSum'. -/
def grantSumCard : Claim7 := { stood := { row := grantSumRow, standIns := [], harness := (true, "b0cd31ebb5d8d2a428e8e8544b0a7dc1282025926dc5f26832cef66dcc8e89c3"), looks := true }, kinds := [], alts := [], laidByText := true, laidKinds := [.sentinel, .sentinel, .sentinel, .sentinel], laidTests := true, laidLooks := .later }
def GrantSumCardSaid : Prop := Claim7.holds Tryd.pinned (.plain (OpenSpec.ofChange grantSumSpec)) grantSumCard

/-- THE TIED CARD OF 'culvertlaw08.GrantAnswers'. -/
def grantAnswersCard : Claim7 := { stood := { row := grantAnswersRow, standIns := [], harness := (true, "b0cd31ebb5d8d2a428e8e8544b0a7dc1282025926dc5f26832cef66dcc8e89c3"), looks := true }, kinds := [], alts := [], laidByText := true, laidKinds := [.sentinel, .sentinel, .sentinel, .sentinel, .sentinel, .sentinel, .sentinel, .sentinel, .sentinel, .sentinel, .sentinel, .sentinel, .sentinel, .sentinel, .sentinel, .sentinel, .sentinel, .sentinel, .sentinel, .sentinel, .sentinel, .sentinel, .sentinel, .sentinel, .sentinel, .sentinel, .sentinel, .sentinel, .sentinel, .sentinel, .sentinel, .sentinel, .sentinel, .sentinel, .sentinel, .sentinel, .sentinel, .sentinel, .sentinel, .sentinel, .sentinel, .sentinel], laidTests := true, laidLooks := .later }
def GrantAnswersCardSaid : Prop := Claim7.holds Tryd.pinned (.plain (OpenSpec.ofChange grantAnswersSpec)) grantAnswersCard

/-- THE TIED CARD OF 'culvertlaw08.GrantSplit'. -/
def grantSplitCard : Claim7 := { stood := { row := grantSplitRow, standIns := [], harness := (true, "b0cd31ebb5d8d2a428e8e8544b0a7dc1282025926dc5f26832cef66dcc8e89c3"), looks := true }, kinds := [], alts := [], laidByText := true, laidKinds := [.sentinel, .sentinel, .sentinel, .sentinel, .sentinel, .sentinel, .sentinel, .sentinel, .sentinel, .sentinel, .sentinel, .sentinel, .sentinel, .sentinel, .sentinel, .sentinel, .sentinel, .sentinel, .sentinel, .sentinel, .sentinel, .sentinel, .sentinel, .sentinel, .sentinel, .sentinel, .sentinel, .sentinel, .sentinel, .sentinel, .sentinel, .sentinel, .sentinel, .sentinel, .sentinel, .sentinel, .sentinel, .sentinel, .sentinel, .sentinel, .sentinel, .sentinel], laidTests := true, laidLooks := .later }
def GrantSplitCardSaid : Prop := Claim7.holds Tryd.pinned (.plain (OpenSpec.ofChange grantSplitSpec)) grantSplitCard

/-- THE TIED CARD OF 'culvertlaw08.GrantThreshold'. -/
def grantThresholdCard : Claim7 := { stood := { row := grantThresholdRow, standIns := [], harness := (true, "b0cd31ebb5d8d2a428e8e8544b0a7dc1282025926dc5f26832cef66dcc8e89c3"), looks := true }, kinds := [], alts := [], laidByText := true, laidKinds := [.sentinel, .sentinel, .sentinel, .sentinel, .sentinel, .sentinel, .sentinel, .sentinel, .sentinel, .sentinel, .sentinel, .sentinel, .sentinel, .sentinel, .sentinel, .sentinel, .sentinel, .sentinel, .sentinel, .sentinel, .sentinel, .sentinel, .sentinel, .sentinel, .sentinel, .sentinel, .sentinel, .sentinel, .sentinel, .sentinel, .sentinel, .sentinel, .sentinel, .sentinel, .sentinel, .sentinel, .sentinel, .sentinel, .sentinel, .sentinel, .sentinel, .sentinel], laidTests := true, laidLooks := .later }
def GrantThresholdCardSaid : Prop := Claim7.holds Tryd.pinned (.plain (OpenSpec.ofChange grantThresholdSpec)) grantThresholdCard

/-- THE TIED CARD OF 'culvertlaw08.GrantPair'. -/
def grantPairCard : Claim7 := { stood := { row := grantPairRow, standIns := [], harness := (true, "b0cd31ebb5d8d2a428e8e8544b0a7dc1282025926dc5f26832cef66dcc8e89c3"), looks := true }, kinds := [], alts := [], laidByText := true, laidKinds := [.sentinel, .sentinel, .sentinel, .sentinel, .sentinel, .sentinel], laidTests := true, laidLooks := .later }
def GrantPairCardSaid : Prop := Claim7.holds Tryd.pinned (.plain (OpenSpec.ofChange grantPairSpec)) grantPairCard

/-- THE SECOND FORM's CARD OF 'culvertlaw07.CreditPlays'. -/
def creditPlaysUptoCard : Claim7 := { stood := { row := creditPlaysUptoRow, standIns := [], harness := (true, "b0cd31ebb5d8d2a428e8e8544b0a7dc1282025926dc5f26832cef66dcc8e89c3"), looks := true }, kinds := [], alts := [], laidByText := true, laidKinds := [.sentinel, .sentinel, .sentinel, .sentinel, .sentinel, .sentinel, .sentinel, .sentinel, .sentinel, .sentinel, .sentinel, .sentinel, .sentinel, .sentinel, .sentinel, .sentinel, .sentinel, .sentinel, .sentinel, .sentinel, .sentinel, .sentinel, .sentinel, .sentinel, .sentinel, .sentinel, .sentinel, .sentinel, .sentinel, .sentinel, .sentinel, .sentinel, .sentinel, .sentinel, .sentinel, .sentinel, .sentinel, .sentinel, .sentinel, .sentinel, .sentinel, .sentinel], laidTests := true, laidLooks := .later }
def CreditPlaysUptoCardSaid : Prop := Claim7.holds Tryd.pinned (.plain (OpenSpec.upto creditPlaysSpec)) creditPlaysUptoCard

/-- THE SECOND FORM's CARD OF 'culvertlaw07.CreditNever'. -/
def creditNeverUptoCard : Claim7 := { stood := { row := creditNeverUptoRow, standIns := [], harness := (true, "b0cd31ebb5d8d2a428e8e8544b0a7dc1282025926dc5f26832cef66dcc8e89c3"), looks := true }, kinds := [], alts := [], laidByText := true, laidKinds := [.sentinel, .sentinel, .sentinel, .sentinel, .sentinel, .sentinel, .sentinel, .sentinel, .sentinel, .sentinel, .sentinel, .sentinel, .sentinel, .sentinel, .sentinel, .sentinel, .sentinel, .sentinel, .sentinel, .sentinel, .sentinel, .sentinel, .sentinel, .sentinel, .sentinel, .sentinel, .sentinel, .sentinel, .sentinel, .sentinel, .sentinel, .sentinel, .sentinel, .sentinel, .sentinel, .sentinel, .sentinel, .sentinel, .sentinel, .sentinel, .sentinel, .sentinel], laidTests := true, laidLooks := .later }
def CreditNeverUptoCardSaid : Prop := Claim7.holds Tryd.pinned (.plain (OpenSpec.upto creditNeverSpec)) creditNeverUptoCard

/-- THE SECOND FORM's CARD OF 'culvertlaw07.CreditTwo'. -/
def creditTwoUptoCard : Claim7 := { stood := { row := creditTwoUptoRow, standIns := [], harness := (true, "b0cd31ebb5d8d2a428e8e8544b0a7dc1282025926dc5f26832cef66dcc8e89c3"), looks := true }, kinds := [], alts := [], laidByText := true, laidKinds := [.sentinel, .sentinel, .sentinel, .sentinel, .sentinel, .sentinel, .sentinel, .sentinel, .sentinel, .sentinel, .sentinel, .sentinel, .sentinel, .sentinel, .sentinel, .sentinel, .sentinel, .sentinel, .sentinel, .sentinel, .sentinel, .sentinel, .sentinel, .sentinel, .sentinel, .sentinel, .sentinel, .sentinel, .sentinel, .sentinel, .sentinel, .sentinel, .sentinel, .sentinel, .sentinel, .sentinel, .sentinel, .sentinel, .sentinel, .sentinel, .sentinel, .sentinel], laidTests := true, laidLooks := .later }
def CreditTwoUptoCardSaid : Prop := Claim7.holds Tryd.pinned (.plain (OpenSpec.upto creditTwoSpec)) creditTwoUptoCard

/-- THE SECOND FORM's CARD OF 'culvertlaw08.GrantNames'. -/
def grantNamesUptoCard : Claim7 := { stood := { row := grantNamesUptoRow, standIns := [], harness := (true, "b0cd31ebb5d8d2a428e8e8544b0a7dc1282025926dc5f26832cef66dcc8e89c3"), looks := true }, kinds := [], alts := [], laidByText := true, laidKinds := [.sentinel, .sentinel, .sentinel, .sentinel, .sentinel, .sentinel, .sentinel, .sentinel, .sentinel, .sentinel, .sentinel, .sentinel, .sentinel, .sentinel, .sentinel, .sentinel, .sentinel, .sentinel, .sentinel, .sentinel, .sentinel, .sentinel, .sentinel, .sentinel, .sentinel, .sentinel, .sentinel, .sentinel, .sentinel, .sentinel, .sentinel, .sentinel, .sentinel, .sentinel, .sentinel, .sentinel, .sentinel, .sentinel, .sentinel, .sentinel, .sentinel, .sentinel], laidTests := true, laidLooks := .later }
def GrantNamesUptoCardSaid : Prop := Claim7.holds Tryd.pinned (.plain (OpenSpec.upto grantNamesSpec)) grantNamesUptoCard

/-- THE SECOND FORM's CARD OF 'culvertlaw08.GrantSum'. -/
def grantSumUptoCard : Claim7 := { stood := { row := grantSumUptoRow, standIns := [], harness := (true, "b0cd31ebb5d8d2a428e8e8544b0a7dc1282025926dc5f26832cef66dcc8e89c3"), looks := true }, kinds := [], alts := [], laidByText := true, laidKinds := [.sentinel, .sentinel, .sentinel, .sentinel], laidTests := true, laidLooks := .later }
def GrantSumUptoCardSaid : Prop := Claim7.holds Tryd.pinned (.plain (OpenSpec.upto grantSumSpec)) grantSumUptoCard

/-- THE SECOND FORM's CARD OF 'culvertlaw08.GrantAnswers'. -/
def grantAnswersUptoCard : Claim7 := { stood := { row := grantAnswersUptoRow, standIns := [], harness := (true, "b0cd31ebb5d8d2a428e8e8544b0a7dc1282025926dc5f26832cef66dcc8e89c3"), looks := true }, kinds := [], alts := [], laidByText := true, laidKinds := [.sentinel, .sentinel, .sentinel, .sentinel, .sentinel, .sentinel, .sentinel, .sentinel, .sentinel, .sentinel, .sentinel, .sentinel, .sentinel, .sentinel, .sentinel, .sentinel, .sentinel, .sentinel, .sentinel, .sentinel, .sentinel, .sentinel, .sentinel, .sentinel, .sentinel, .sentinel, .sentinel, .sentinel, .sentinel, .sentinel, .sentinel, .sentinel, .sentinel, .sentinel, .sentinel, .sentinel, .sentinel, .sentinel, .sentinel, .sentinel, .sentinel, .sentinel], laidTests := true, laidLooks := .later }
def GrantAnswersUptoCardSaid : Prop := Claim7.holds Tryd.pinned (.plain (OpenSpec.upto grantAnswersSpec)) grantAnswersUptoCard

/-- THE SECOND FORM's CARD OF 'culvertlaw08.GrantSplit'. -/
def grantSplitUptoCard : Claim7 := { stood := { row := grantSplitUptoRow, standIns := [], harness := (true, "b0cd31ebb5d8d2a428e8e8544b0a7dc1282025926dc5f26832cef66dcc8e89c3"), looks := true }, kinds := [], alts := [], laidByText := true, laidKinds := [.sentinel, .sentinel, .sentinel, .sentinel, .sentinel, .sentinel, .sentinel, .sentinel, .sentinel, .sentinel, .sentinel, .sentinel, .sentinel, .sentinel, .sentinel, .sentinel, .sentinel, .sentinel, .sentinel, .sentinel, .sentinel, .sentinel, .sentinel, .sentinel, .sentinel, .sentinel, .sentinel, .sentinel, .sentinel, .sentinel, .sentinel, .sentinel, .sentinel, .sentinel, .sentinel, .sentinel, .sentinel, .sentinel, .sentinel, .sentinel, .sentinel, .sentinel], laidTests := true, laidLooks := .later }
def GrantSplitUptoCardSaid : Prop := Claim7.holds Tryd.pinned (.plain (OpenSpec.upto grantSplitSpec)) grantSplitUptoCard

/-- THE SECOND FORM's CARD OF 'culvertlaw08.GrantThreshold'. -/
def grantThresholdUptoCard : Claim7 := { stood := { row := grantThresholdUptoRow, standIns := [], harness := (true, "b0cd31ebb5d8d2a428e8e8544b0a7dc1282025926dc5f26832cef66dcc8e89c3"), looks := true }, kinds := [], alts := [], laidByText := true, laidKinds := [.sentinel, .sentinel, .sentinel, .sentinel, .sentinel, .sentinel, .sentinel, .sentinel, .sentinel, .sentinel, .sentinel, .sentinel, .sentinel, .sentinel, .sentinel, .sentinel, .sentinel, .sentinel, .sentinel, .sentinel, .sentinel, .sentinel, .sentinel, .sentinel, .sentinel, .sentinel, .sentinel, .sentinel, .sentinel, .sentinel, .sentinel, .sentinel, .sentinel, .sentinel, .sentinel, .sentinel, .sentinel, .sentinel, .sentinel, .sentinel, .sentinel, .sentinel], laidTests := true, laidLooks := .later }
def GrantThresholdUptoCardSaid : Prop := Claim7.holds Tryd.pinned (.plain (OpenSpec.upto grantThresholdSpec)) grantThresholdUptoCard

/-- THE SECOND FORM's CARD OF 'culvertlaw08.GrantPair'. -/
def grantPairUptoCard : Claim7 := { stood := { row := grantPairUptoRow, standIns := [], harness := (true, "b0cd31ebb5d8d2a428e8e8544b0a7dc1282025926dc5f26832cef66dcc8e89c3"), looks := true }, kinds := [], alts := [], laidByText := true, laidKinds := [.sentinel, .sentinel, .sentinel, .sentinel, .sentinel, .sentinel], laidTests := true, laidLooks := .later }
def GrantPairUptoCardSaid : Prop := Claim7.holds Tryd.pinned (.plain (OpenSpec.upto grantPairSpec)) grantPairUptoCard
end Rows
end Go.Proofs.YtbabemamnakmiaaDoor
