/-
  DERIVED. GIVEN WITH THE SEED: THE CARDS: each row of YtllgjjldnnmjkaaDoorRows.lean that lists a variable, with what it lists TIED to the program's text (the seventh form; the later family's looks); each row that meets fmt, with fmt's text TOLD by the authors' own Lean function (tested against real Go, not proved from fmt's source: count such statements apart). THE CARD IS WHAT COUNTS. Prove the row's statement (the work); the ties are given (YtllgjjldnnmjkaaDoorTie.lean); close each card by the builder's one call (the guide's Derived/Test/ToyasCard.lean, 'card_holds'). Laid BY PROGRAM, IN A SANDBOX (cutbox-door.mjs). By AI agents, Wed Nov 11 2026. No macro, syntax, notation, axiom, sorry.
-/
import Derived.Test.YtllgjjldnnmjkaaDoorRows
import GoSem.ClaimSeven
namespace Go.Proofs.YtllgjjldnnmjkaaDoor
namespace Rows

/-- THE TIED CARD OF 'milepostlaw07.SenseReads'. -/
def senseReadsCard : Claim7 := { stood := { row := senseReadsRow, standIns := [], harness := (true, "48a53ec08dfe985f05627f9bbfc8ddd75f070c48f0ede0863df463e5e34c6820"), looks := true }, kinds := [], alts := [], laidByText := true, laidKinds := [.data], laidTests := true, laidLooks := .later }
def SenseReadsCardSaid : Prop := Claim7.holds Tryd.pinned (.plain (OpenSpec.ofChange senseReadsSpec)) senseReadsCard

/-- THE TIED CARD OF 'milepostlaw07.SenseChecks'. -/
def senseChecksCard : Claim7 := { stood := { row := senseChecksRow, standIns := [], harness := (true, "48a53ec08dfe985f05627f9bbfc8ddd75f070c48f0ede0863df463e5e34c6820"), looks := true }, kinds := [], alts := [], laidByText := true, laidKinds := [.data], laidTests := true, laidLooks := .later }
def SenseChecksCardSaid : Prop := Claim7.holds Tryd.pinned (.plain (OpenSpec.ofChange senseChecksSpec)) senseChecksCard

/-- THE TIED CARD OF 'milepostlaw07.SenseApplies'. -/
def senseAppliesCard : Claim7 := { stood := { row := senseAppliesRow, standIns := [], harness := (true, "48a53ec08dfe985f05627f9bbfc8ddd75f070c48f0ede0863df463e5e34c6820"), looks := true }, kinds := [], alts := [], laidByText := true, laidKinds := [.data], laidTests := true, laidLooks := .later }
def SenseAppliesCardSaid : Prop := Claim7.holds Tryd.pinned (.plain (OpenSpec.ofChange senseAppliesSpec)) senseAppliesCard

/-- THE TIED CARD OF 'milepostlaw07.SenseSays'. -/
def senseSaysCard : Claim7 := { stood := { row := senseSaysRow, standIns := [], harness := (true, "48a53ec08dfe985f05627f9bbfc8ddd75f070c48f0ede0863df463e5e34c6820"), looks := true }, kinds := [], alts := [], laidByText := true, laidKinds := [.data], laidTests := true, laidLooks := .later }
def SenseSaysCardSaid : Prop := Claim7.holds Tryd.pinned (.plain (OpenSpec.ofChange senseSaysSpec)) senseSaysCard

/-- THE TIED CARD OF 'milepostlaw07.SenseWhole'. -/
def senseWholeCard : Claim7 := { stood := { row := senseWholeRow, standIns := [], harness := (true, "48a53ec08dfe985f05627f9bbfc8ddd75f070c48f0ede0863df463e5e34c6820"), looks := true }, kinds := [], alts := [], laidByText := true, laidKinds := [.data], laidTests := true, laidLooks := .later }
def SenseWholeCardSaid : Prop := Claim7.holds Tryd.pinned (.plain (OpenSpec.ofChange senseWholeSpec)) senseWholeCard

/-- THE TIED CARD OF 'milepostlaw07.SenseParses'. -/
def senseParsesCard : Claim7 := { stood := { row := senseParsesRow, standIns := [], harness := (true, "48a53ec08dfe985f05627f9bbfc8ddd75f070c48f0ede0863df463e5e34c6820"), looks := true }, kinds := [], alts := [], laidByText := true, laidKinds := [.data], laidTests := true, laidLooks := .later }
def SenseParsesCardSaid : Prop := Claim7.holds Tryd.pinned (.plain (OpenSpec.ofChange senseParsesSpec)) senseParsesCard

/-- THE TIED CARD OF 'milepostlaw07.SenseBack'. -/
def senseBackCard : Claim7 := { stood := { row := senseBackRow, standIns := [], harness := (true, "48a53ec08dfe985f05627f9bbfc8ddd75f070c48f0ede0863df463e5e34c6820"), looks := true }, kinds := [], alts := [], laidByText := true, laidKinds := [.data, .data, .data, .data], laidTests := true, laidLooks := .later }
def SenseBackCardSaid : Prop := Claim7.holds Tryd.pinned (.plain (OpenSpec.ofChange senseBackSpec)) senseBackCard

/-- THE TIED CARD OF 'milepostlaw07.SensePrints'. -/
def sensePrintsCard : Claim7 := { stood := { row := sensePrintsRow, standIns := [], harness := (true, "48a53ec08dfe985f05627f9bbfc8ddd75f070c48f0ede0863df463e5e34c6820"), looks := true }, kinds := [], alts := [], laidByText := true, laidKinds := [.data, .data, .data, .data], laidTests := true, laidLooks := .later }
def SensePrintsCardSaid : Prop := Claim7.holds Tryd.pinned (.plain (OpenSpec.ofChange sensePrintsSpec)) sensePrintsCard

/-- THE SECOND FORM's CARD OF 'milepostlaw07.SenseReads'. -/
def senseReadsUptoCard : Claim7 := { stood := { row := senseReadsUptoRow, standIns := [], harness := (true, "48a53ec08dfe985f05627f9bbfc8ddd75f070c48f0ede0863df463e5e34c6820"), looks := true }, kinds := [], alts := [], laidByText := true, laidKinds := [.data], laidTests := true, laidLooks := .later }
def SenseReadsUptoCardSaid : Prop := Claim7.holds Tryd.pinned (.plain (OpenSpec.upto senseReadsSpec)) senseReadsUptoCard

/-- THE SECOND FORM's CARD OF 'milepostlaw07.SenseChecks'. -/
def senseChecksUptoCard : Claim7 := { stood := { row := senseChecksUptoRow, standIns := [], harness := (true, "48a53ec08dfe985f05627f9bbfc8ddd75f070c48f0ede0863df463e5e34c6820"), looks := true }, kinds := [], alts := [], laidByText := true, laidKinds := [.data], laidTests := true, laidLooks := .later }
def SenseChecksUptoCardSaid : Prop := Claim7.holds Tryd.pinned (.plain (OpenSpec.upto senseChecksSpec)) senseChecksUptoCard

/-- THE SECOND FORM's CARD OF 'milepostlaw07.SenseApplies'. -/
def senseAppliesUptoCard : Claim7 := { stood := { row := senseAppliesUptoRow, standIns := [], harness := (true, "48a53ec08dfe985f05627f9bbfc8ddd75f070c48f0ede0863df463e5e34c6820"), looks := true }, kinds := [], alts := [], laidByText := true, laidKinds := [.data], laidTests := true, laidLooks := .later }
def SenseAppliesUptoCardSaid : Prop := Claim7.holds Tryd.pinned (.plain (OpenSpec.upto senseAppliesSpec)) senseAppliesUptoCard

/-- THE SECOND FORM's CARD OF 'milepostlaw07.SenseSays'. -/
def senseSaysUptoCard : Claim7 := { stood := { row := senseSaysUptoRow, standIns := [], harness := (true, "48a53ec08dfe985f05627f9bbfc8ddd75f070c48f0ede0863df463e5e34c6820"), looks := true }, kinds := [], alts := [], laidByText := true, laidKinds := [.data], laidTests := true, laidLooks := .later }
def SenseSaysUptoCardSaid : Prop := Claim7.holds Tryd.pinned (.plain (OpenSpec.upto senseSaysSpec)) senseSaysUptoCard

/-- THE SECOND FORM's CARD OF 'milepostlaw07.SenseWhole'. -/
def senseWholeUptoCard : Claim7 := { stood := { row := senseWholeUptoRow, standIns := [], harness := (true, "48a53ec08dfe985f05627f9bbfc8ddd75f070c48f0ede0863df463e5e34c6820"), looks := true }, kinds := [], alts := [], laidByText := true, laidKinds := [.data], laidTests := true, laidLooks := .later }
def SenseWholeUptoCardSaid : Prop := Claim7.holds Tryd.pinned (.plain (OpenSpec.upto senseWholeSpec)) senseWholeUptoCard

/-- THE SECOND FORM's CARD OF 'milepostlaw07.SenseParses'. -/
def senseParsesUptoCard : Claim7 := { stood := { row := senseParsesUptoRow, standIns := [], harness := (true, "48a53ec08dfe985f05627f9bbfc8ddd75f070c48f0ede0863df463e5e34c6820"), looks := true }, kinds := [], alts := [], laidByText := true, laidKinds := [.data], laidTests := true, laidLooks := .later }
def SenseParsesUptoCardSaid : Prop := Claim7.holds Tryd.pinned (.plain (OpenSpec.upto senseParsesSpec)) senseParsesUptoCard

/-- THE SECOND FORM's CARD OF 'milepostlaw07.SenseBack'. -/
def senseBackUptoCard : Claim7 := { stood := { row := senseBackUptoRow, standIns := [], harness := (true, "48a53ec08dfe985f05627f9bbfc8ddd75f070c48f0ede0863df463e5e34c6820"), looks := true }, kinds := [], alts := [], laidByText := true, laidKinds := [.data, .data, .data, .data], laidTests := true, laidLooks := .later }
def SenseBackUptoCardSaid : Prop := Claim7.holds Tryd.pinned (.plain (OpenSpec.upto senseBackSpec)) senseBackUptoCard

/-- THE SECOND FORM's CARD OF 'milepostlaw07.SensePrints'. -/
def sensePrintsUptoCard : Claim7 := { stood := { row := sensePrintsUptoRow, standIns := [], harness := (true, "48a53ec08dfe985f05627f9bbfc8ddd75f070c48f0ede0863df463e5e34c6820"), looks := true }, kinds := [], alts := [], laidByText := true, laidKinds := [.data, .data, .data, .data], laidTests := true, laidLooks := .later }
def SensePrintsUptoCardSaid : Prop := Claim7.holds Tryd.pinned (.plain (OpenSpec.upto sensePrintsSpec)) sensePrintsUptoCard
end Rows
end Go.Proofs.YtllgjjldnnmjkaaDoor
