/-
  DERIVED. GIVEN WITH THE SEED: THE CARDS: each row of YtohbjddhgdcggaaDoorRows.lean that lists a variable, with what it lists TIED to the program's text (the seventh form; the later family's looks); each row that meets fmt, with fmt's text TOLD by the authors' own Lean function (tested against real Go, not proved from fmt's source: count such statements apart). THE CARD IS WHAT COUNTS. Prove the row's statement (the work); the ties are given (YtohbjddhgdcggaaDoorTie.lean); close each card by the builder's one call (the guide's Derived/Test/ToyasCard.lean, 'card_holds'). Laid BY PROGRAM, IN A SANDBOX (cutbox-door.mjs). By AI agents, Wed Nov 11 2026. No macro, syntax, notation, axiom, sorry.
-/
import Derived.Test.YtohbjddhgdcggaaDoorRows
import GoSem.ClaimSeven
namespace Go.Proofs.YtohbjddhgdcggaaDoor
namespace Rows

/-- THE TIED CARD OF 'culvertlaw07.CreditPlays'. -/
def creditPlaysCard : Claim7 := { stood := { row := creditPlaysRow, standIns := [], harness := (true, "6cb30a9d51baee972697f7893df25f0f630a18416511dc29864ca57e5a7529cc"), looks := true }, kinds := [], alts := [], laidByText := true, laidKinds := [.sentinel, .sentinel, .sentinel, .sentinel, .sentinel, .sentinel, .sentinel, .sentinel, .sentinel, .sentinel, .sentinel, .sentinel, .sentinel, .sentinel, .sentinel, .sentinel, .sentinel, .sentinel, .sentinel, .sentinel, .sentinel, .sentinel, .sentinel, .sentinel, .sentinel, .sentinel, .sentinel, .sentinel, .sentinel, .sentinel, .sentinel, .sentinel, .sentinel, .sentinel, .sentinel, .sentinel, .sentinel, .sentinel, .sentinel, .sentinel, .sentinel, .sentinel], laidTests := true, laidLooks := .later }
def CreditPlaysCardSaid : Prop := Claim7.holds Tryd.pinned (.plain (OpenSpec.ofChange creditPlaysSpec)) creditPlaysCard

/-- THE TIED CARD OF 'culvertlaw07.CreditNever'. -/
def creditNeverCard : Claim7 := { stood := { row := creditNeverRow, standIns := [], harness := (true, "6cb30a9d51baee972697f7893df25f0f630a18416511dc29864ca57e5a7529cc"), looks := true }, kinds := [], alts := [], laidByText := true, laidKinds := [.sentinel, .sentinel, .sentinel, .sentinel, .sentinel, .sentinel, .sentinel, .sentinel, .sentinel, .sentinel, .sentinel, .sentinel, .sentinel, .sentinel, .sentinel, .sentinel, .sentinel, .sentinel, .sentinel, .sentinel, .sentinel, .sentinel, .sentinel, .sentinel, .sentinel, .sentinel, .sentinel, .sentinel, .sentinel, .sentinel, .sentinel, .sentinel, .sentinel, .sentinel, .sentinel, .sentinel, .sentinel, .sentinel, .sentinel, .sentinel, .sentinel, .sentinel], laidTests := true, laidLooks := .later }
def CreditNeverCardSaid : Prop := Claim7.holds Tryd.pinned (.plain (OpenSpec.ofChange creditNeverSpec)) creditNeverCard

/-- THE TIED CARD OF 'culvertlaw07.CreditTwo'. -/
def creditTwoCard : Claim7 := { stood := { row := creditTwoRow, standIns := [], harness := (true, "6cb30a9d51baee972697f7893df25f0f630a18416511dc29864ca57e5a7529cc"), looks := true }, kinds := [], alts := [], laidByText := true, laidKinds := [.sentinel, .sentinel, .sentinel, .sentinel, .sentinel, .sentinel, .sentinel, .sentinel, .sentinel, .sentinel, .sentinel, .sentinel, .sentinel, .sentinel, .sentinel, .sentinel, .sentinel, .sentinel, .sentinel, .sentinel, .sentinel, .sentinel, .sentinel, .sentinel, .sentinel, .sentinel, .sentinel, .sentinel, .sentinel, .sentinel, .sentinel, .sentinel, .sentinel, .sentinel, .sentinel, .sentinel, .sentinel, .sentinel, .sentinel, .sentinel, .sentinel, .sentinel], laidTests := true, laidLooks := .later }
def CreditTwoCardSaid : Prop := Claim7.holds Tryd.pinned (.plain (OpenSpec.ofChange creditTwoSpec)) creditTwoCard

/-- THE TIED CARD OF 'culvertlaw08.GrantSplit'. -/
def grantSplitCard : Claim7 := { stood := { row := grantSplitRow, standIns := [], harness := (true, "6cb30a9d51baee972697f7893df25f0f630a18416511dc29864ca57e5a7529cc"), looks := true }, kinds := [], alts := [], laidByText := true, laidKinds := [.sentinel, .sentinel, .sentinel, .sentinel, .sentinel, .sentinel, .sentinel, .sentinel, .sentinel, .sentinel, .sentinel, .sentinel, .sentinel, .sentinel, .sentinel, .sentinel, .sentinel, .sentinel, .sentinel, .sentinel, .sentinel, .sentinel, .sentinel, .sentinel, .sentinel, .sentinel, .sentinel, .sentinel, .sentinel, .sentinel, .sentinel, .sentinel, .sentinel, .sentinel, .sentinel, .sentinel, .sentinel, .sentinel, .sentinel, .sentinel, .sentinel, .sentinel], laidTests := true, laidLooks := .later }
def GrantSplitCardSaid : Prop := Claim7.holds Tryd.pinned (.plain (OpenSpec.ofChange grantSplitSpec)) grantSplitCard

/-- THE TIED CARD OF 'culvertlaw08.GrantPair'. -/
def grantPairCard : Claim7 := { stood := { row := grantPairRow, standIns := [], harness := (true, "6cb30a9d51baee972697f7893df25f0f630a18416511dc29864ca57e5a7529cc"), looks := true }, kinds := [], alts := [], laidByText := true, laidKinds := [.sentinel, .sentinel, .sentinel, .sentinel, .sentinel, .sentinel], laidTests := true, laidLooks := .later }
def GrantPairCardSaid : Prop := Claim7.holds Tryd.pinned (.plain (OpenSpec.ofChange grantPairSpec)) grantPairCard

/-- THE SECOND FORM's CARD OF 'culvertlaw07.CreditPlays'. -/
def creditPlaysUptoCard : Claim7 := { stood := { row := creditPlaysUptoRow, standIns := [], harness := (true, "6cb30a9d51baee972697f7893df25f0f630a18416511dc29864ca57e5a7529cc"), looks := true }, kinds := [], alts := [], laidByText := true, laidKinds := [.sentinel, .sentinel, .sentinel, .sentinel, .sentinel, .sentinel, .sentinel, .sentinel, .sentinel, .sentinel, .sentinel, .sentinel, .sentinel, .sentinel, .sentinel, .sentinel, .sentinel, .sentinel, .sentinel, .sentinel, .sentinel, .sentinel, .sentinel, .sentinel, .sentinel, .sentinel, .sentinel, .sentinel, .sentinel, .sentinel, .sentinel, .sentinel, .sentinel, .sentinel, .sentinel, .sentinel, .sentinel, .sentinel, .sentinel, .sentinel, .sentinel, .sentinel], laidTests := true, laidLooks := .later }
def CreditPlaysUptoCardSaid : Prop := Claim7.holds Tryd.pinned (.plain (OpenSpec.upto creditPlaysSpec)) creditPlaysUptoCard

/-- THE SECOND FORM's CARD OF 'culvertlaw07.CreditNever'. -/
def creditNeverUptoCard : Claim7 := { stood := { row := creditNeverUptoRow, standIns := [], harness := (true, "6cb30a9d51baee972697f7893df25f0f630a18416511dc29864ca57e5a7529cc"), looks := true }, kinds := [], alts := [], laidByText := true, laidKinds := [.sentinel, .sentinel, .sentinel, .sentinel, .sentinel, .sentinel, .sentinel, .sentinel, .sentinel, .sentinel, .sentinel, .sentinel, .sentinel, .sentinel, .sentinel, .sentinel, .sentinel, .sentinel, .sentinel, .sentinel, .sentinel, .sentinel, .sentinel, .sentinel, .sentinel, .sentinel, .sentinel, .sentinel, .sentinel, .sentinel, .sentinel, .sentinel, .sentinel, .sentinel, .sentinel, .sentinel, .sentinel, .sentinel, .sentinel, .sentinel, .sentinel, .sentinel], laidTests := true, laidLooks := .later }
def CreditNeverUptoCardSaid : Prop := Claim7.holds Tryd.pinned (.plain (OpenSpec.upto creditNeverSpec)) creditNeverUptoCard

/-- THE SECOND FORM's CARD OF 'culvertlaw07.CreditTwo'. -/
def creditTwoUptoCard : Claim7 := { stood := { row := creditTwoUptoRow, standIns := [], harness := (true, "6cb30a9d51baee972697f7893df25f0f630a18416511dc29864ca57e5a7529cc"), looks := true }, kinds := [], alts := [], laidByText := true, laidKinds := [.sentinel, .sentinel, .sentinel, .sentinel, .sentinel, .sentinel, .sentinel, .sentinel, .sentinel, .sentinel, .sentinel, .sentinel, .sentinel, .sentinel, .sentinel, .sentinel, .sentinel, .sentinel, .sentinel, .sentinel, .sentinel, .sentinel, .sentinel, .sentinel, .sentinel, .sentinel, .sentinel, .sentinel, .sentinel, .sentinel, .sentinel, .sentinel, .sentinel, .sentinel, .sentinel, .sentinel, .sentinel, .sentinel, .sentinel, .sentinel, .sentinel, .sentinel], laidTests := true, laidLooks := .later }
def CreditTwoUptoCardSaid : Prop := Claim7.holds Tryd.pinned (.plain (OpenSpec.upto creditTwoSpec)) creditTwoUptoCard

/-- THE SECOND FORM's CARD OF 'culvertlaw08.GrantSplit'. -/
def grantSplitUptoCard : Claim7 := { stood := { row := grantSplitUptoRow, standIns := [], harness := (true, "6cb30a9d51baee972697f7893df25f0f630a18416511dc29864ca57e5a7529cc"), looks := true }, kinds := [], alts := [], laidByText := true, laidKinds := [.sentinel, .sentinel, .sentinel, .sentinel, .sentinel, .sentinel, .sentinel, .sentinel, .sentinel, .sentinel, .sentinel, .sentinel, .sentinel, .sentinel, .sentinel, .sentinel, .sentinel, .sentinel, .sentinel, .sentinel, .sentinel, .sentinel, .sentinel, .sentinel, .sentinel, .sentinel, .sentinel, .sentinel, .sentinel, .sentinel, .sentinel, .sentinel, .sentinel, .sentinel, .sentinel, .sentinel, .sentinel, .sentinel, .sentinel, .sentinel, .sentinel, .sentinel], laidTests := true, laidLooks := .later }
def GrantSplitUptoCardSaid : Prop := Claim7.holds Tryd.pinned (.plain (OpenSpec.upto grantSplitSpec)) grantSplitUptoCard

/-- THE SECOND FORM's CARD OF 'culvertlaw08.GrantPair'. -/
def grantPairUptoCard : Claim7 := { stood := { row := grantPairUptoRow, standIns := [], harness := (true, "6cb30a9d51baee972697f7893df25f0f630a18416511dc29864ca57e5a7529cc"), looks := true }, kinds := [], alts := [], laidByText := true, laidKinds := [.sentinel, .sentinel, .sentinel, .sentinel, .sentinel, .sentinel], laidTests := true, laidLooks := .later }
def GrantPairUptoCardSaid : Prop := Claim7.holds Tryd.pinned (.plain (OpenSpec.upto grantPairSpec)) grantPairUptoCard
end Rows
end Go.Proofs.YtohbjddhgdcggaaDoor
