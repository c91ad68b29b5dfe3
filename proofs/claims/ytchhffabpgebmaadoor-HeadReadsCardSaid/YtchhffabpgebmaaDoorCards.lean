/-
  DERIVED. GIVEN WITH THE SEED: THE CARDS: each row of YtchhffabpgebmaaDoorRows.lean that lists a variable, with what it lists TIED to the program's text (the seventh form; the later family's looks); each row that meets fmt, with fmt's text TOLD by the authors' own Lean function (tested against real Go, not proved from fmt's source: count such statements apart). THE CARD IS WHAT COUNTS. Prove the row's statement (the work); the ties are given (YtchhffabpgebmaaDoorTie.lean); close each card by the builder's one call (the guide's Derived/Test/ToyasCard.lean, 'card_holds'). Laid BY PROGRAM, IN A SANDBOX (cutbox-door.mjs). By AI agents, Wed Nov 11 2026. No macro, syntax, notation, axiom, sorry.
-/
import Derived.Test.YtchhffabpgebmaaDoorRows
import GoSem.ClaimSeven
namespace Go.Proofs.YtchhffabpgebmaaDoor
namespace Rows

/-- THE TIED CARD OF 'milepostlaw01.HeadMakes'. -/
def headMakesCard : Claim7 := { stood := { row := headMakesRow, standIns := [], harness := (true, "4a0a30e5d2840cbe49710b3ba8a092e77fb76d415450da6258277687a61fe34b"), looks := false }, kinds := [], alts := [], laidByText := true, laidKinds := [.data, .data, .data, .data], laidTests := true, laidLooks := .later }
def HeadMakesCardSaid : Prop := Claim7.holds Tryd.pinned (.plain (OpenSpec.ofChange headMakesSpec)) headMakesCard

/-- THE TIED CARD OF 'milepostlaw01.HeadFields'. -/
def headFieldsCard : Claim7 := { stood := { row := headFieldsRow, standIns := [], harness := (true, "4a0a30e5d2840cbe49710b3ba8a092e77fb76d415450da6258277687a61fe34b"), looks := false }, kinds := [], alts := [], laidByText := true, laidKinds := [.data, .data, .data, .data], laidTests := true, laidLooks := .later }
def HeadFieldsCardSaid : Prop := Claim7.holds Tryd.pinned (.plain (OpenSpec.ofChange headFieldsSpec)) headFieldsCard

/-- THE TIED CARD OF 'milepostlaw01.HeadBits'. -/
def headBitsCard : Claim7 := { stood := { row := headBitsRow, standIns := [], harness := (true, "4a0a30e5d2840cbe49710b3ba8a092e77fb76d415450da6258277687a61fe34b"), looks := false }, kinds := [], alts := [], laidByText := true, laidKinds := [.data, .data, .data, .data], laidTests := true, laidLooks := .later }
def HeadBitsCardSaid : Prop := Claim7.holds Tryd.pinned (.plain (OpenSpec.ofChange headBitsSpec)) headBitsCard

/-- THE TIED CARD OF 'milepostlaw01.HeadOrder'. -/
def headOrderCard : Claim7 := { stood := { row := headOrderRow, standIns := [], harness := (true, "4a0a30e5d2840cbe49710b3ba8a092e77fb76d415450da6258277687a61fe34b"), looks := false }, kinds := [], alts := [], laidByText := true, laidKinds := [.data, .data, .data, .data], laidTests := true, laidLooks := .later }
def HeadOrderCardSaid : Prop := Claim7.holds Tryd.pinned (.plain (OpenSpec.ofChange headOrderSpec)) headOrderCard

/-- THE TIED CARD OF 'milepostlaw01.HeadTexts'. -/
def headTextsCard : Claim7 := { stood := { row := headTextsRow, standIns := [], harness := (true, "4a0a30e5d2840cbe49710b3ba8a092e77fb76d415450da6258277687a61fe34b"), looks := false }, kinds := [], alts := [], laidByText := true, laidKinds := [.data, .data, .data, .data], laidTests := true, laidLooks := .later }
def HeadTextsCardSaid : Prop := Claim7.holds Tryd.pinned (.plain (OpenSpec.ofChange headTextsSpec)) headTextsCard

/-- THE TIED CARD OF 'milepostlaw01.HeadReads'. -/
def headReadsCard : Claim7 := { stood := { row := headReadsRow, standIns := [], harness := (true, "4a0a30e5d2840cbe49710b3ba8a092e77fb76d415450da6258277687a61fe34b"), looks := false }, kinds := [], alts := [], laidByText := true, laidKinds := [.data, .data, .data, .data], laidTests := true, laidLooks := .later }
def HeadReadsCardSaid : Prop := Claim7.holds Tryd.pinned (.plain (OpenSpec.ofChange headReadsSpec)) headReadsCard

/-- THE SECOND FORM's CARD OF 'milepostlaw01.HeadMakes'. -/
def headMakesUptoCard : Claim7 := { stood := { row := headMakesUptoRow, standIns := [], harness := (true, "4a0a30e5d2840cbe49710b3ba8a092e77fb76d415450da6258277687a61fe34b"), looks := false }, kinds := [], alts := [], laidByText := true, laidKinds := [.data, .data, .data, .data], laidTests := true, laidLooks := .later }
def HeadMakesUptoCardSaid : Prop := Claim7.holds Tryd.pinned (.plain (OpenSpec.upto headMakesSpec)) headMakesUptoCard

/-- THE SECOND FORM's CARD OF 'milepostlaw01.HeadFields'. -/
def headFieldsUptoCard : Claim7 := { stood := { row := headFieldsUptoRow, standIns := [], harness := (true, "4a0a30e5d2840cbe49710b3ba8a092e77fb76d415450da6258277687a61fe34b"), looks := false }, kinds := [], alts := [], laidByText := true, laidKinds := [.data, .data, .data, .data], laidTests := true, laidLooks := .later }
def HeadFieldsUptoCardSaid : Prop := Claim7.holds Tryd.pinned (.plain (OpenSpec.upto headFieldsSpec)) headFieldsUptoCard

/-- THE SECOND FORM's CARD OF 'milepostlaw01.HeadBits'. -/
def headBitsUptoCard : Claim7 := { stood := { row := headBitsUptoRow, standIns := [], harness := (true, "4a0a30e5d2840cbe49710b3ba8a092e77fb76d415450da6258277687a61fe34b"), looks := false }, kinds := [], alts := [], laidByText := true, laidKinds := [.data, .data, .data, .data], laidTests := true, laidLooks := .later }
def HeadBitsUptoCardSaid : Prop := Claim7.holds Tryd.pinned (.plain (OpenSpec.upto headBitsSpec)) headBitsUptoCard

/-- THE SECOND FORM's CARD OF 'milepostlaw01.HeadOrder'. -/
def headOrderUptoCard : Claim7 := { stood := { row := headOrderUptoRow, standIns := [], harness := (true, "4a0a30e5d2840cbe49710b3ba8a092e77fb76d415450da6258277687a61fe34b"), looks := false }, kinds := [], alts := [], laidByText := true, laidKinds := [.data, .data, .data, .data], laidTests := true, laidLooks := .later }
def HeadOrderUptoCardSaid : Prop := Claim7.holds Tryd.pinned (.plain (OpenSpec.upto headOrderSpec)) headOrderUptoCard

/-- THE SECOND FORM's CARD OF 'milepostlaw01.HeadTexts'. -/
def headTextsUptoCard : Claim7 := { stood := { row := headTextsUptoRow, standIns := [], harness := (true, "4a0a30e5d2840cbe49710b3ba8a092e77fb76d415450da6258277687a61fe34b"), looks := false }, kinds := [], alts := [], laidByText := true, laidKinds := [.data, .data, .data, .data], laidTests := true, laidLooks := .later }
def HeadTextsUptoCardSaid : Prop := Claim7.holds Tryd.pinned (.plain (OpenSpec.upto headTextsSpec)) headTextsUptoCard

/-- THE SECOND FORM's CARD OF 'milepostlaw01.HeadReads'. -/
def headReadsUptoCard : Claim7 := { stood := { row := headReadsUptoRow, standIns := [], harness := (true, "4a0a30e5d2840cbe49710b3ba8a092e77fb76d415450da6258277687a61fe34b"), looks := false }, kinds := [], alts := [], laidByText := true, laidKinds := [.data, .data, .data, .data], laidTests := true, laidLooks := .later }
def HeadReadsUptoCardSaid : Prop := Claim7.holds Tryd.pinned (.plain (OpenSpec.upto headReadsSpec)) headReadsUptoCard
end Rows
end Go.Proofs.YtchhffabpgebmaaDoor
