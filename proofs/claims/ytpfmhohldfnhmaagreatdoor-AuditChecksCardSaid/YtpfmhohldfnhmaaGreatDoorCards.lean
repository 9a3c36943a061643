/-
  DERIVED. GIVEN WITH THE SEED: THE CARDS: each row of YtpfmhohldfnhmaaGreatDoorRows.lean that lists a variable, with what it lists TIED to the program's text (the seventh form; the later family's looks); each row that meets fmt, with fmt's text TOLD by the authors' own Lean function (tested against real Go, not proved from fmt's source: count such statements apart). THE CARD IS WHAT COUNTS. Prove the row's statement (the work); the ties are given (YtpfmhohldfnhmaaGreatDoorTie.lean); close each card by the builder's one call (the guide's Derived/Test/ToyasCard.lean, 'card_holds'). Laid BY PROGRAM, IN A SANDBOX (cutbox-door.mjs). By AI agents, Wed Nov 11 2026. No macro, syntax, notation, axiom, sorry.
-/
import Derived.Test.YtpfmhohldfnhmaaGreatDoorRows
import GoSem.ClaimSeven
namespace Go.Proofs.YtpfmhohldfnhmaaGreatDoor
namespace Rows

/-- THE TIED CARD OF 'lockboxlaw06.ModeDoes'. -/
def modeDoesCard : Claim7 := { stood := { row := modeDoesRow, standIns := [], harness := (true, "3a05d988fa47357c235f95377bda5449c7939e0ad58df945c3a7c09d3fa33a44"), looks := true }, kinds := [], alts := [], laidByText := true, laidKinds := [.handle], laidTests := true, laidLooks := .later }
def ModeDoesCardSaid : Prop := Claim7.holds Tryz.pinned (.plain (OpenSpec.ofChange modeDoesSpec)) modeDoesCard

/-- THE TIED CARD OF 'lockboxlaw07.MacCmacs'. -/
def macCmacsCard : Claim7 := { stood := { row := macCmacsRow, standIns := [], harness := (true, "3a05d988fa47357c235f95377bda5449c7939e0ad58df945c3a7c09d3fa33a44"), looks := true }, kinds := [], alts := [], laidByText := true, laidKinds := [.handle], laidTests := true, laidLooks := .later }
def MacCmacsCardSaid : Prop := Claim7.holds Tryz.pinned (.plain (OpenSpec.ofChange macCmacsSpec)) macCmacsCard

/-- THE TIED CARD OF 'lockboxlaw23.AuditNexts'. -/
def auditNextsCard : Claim7 := { stood := { row := auditNextsRow, standIns := [], harness := (true, "3a05d988fa47357c235f95377bda5449c7939e0ad58df945c3a7c09d3fa33a44"), looks := true }, kinds := [], alts := [], laidByText := true, laidKinds := [.handle], laidTests := true, laidLooks := .later }
def AuditNextsCardSaid : Prop := Claim7.holds Tryz.pinned (.plain (OpenSpec.ofChange auditNextsSpec)) auditNextsCard

/-- THE TIED CARD OF 'lockboxlaw23.AuditChecks'. -/
def auditChecksCard : Claim7 := { stood := { row := auditChecksRow, standIns := [], harness := (true, "3a05d988fa47357c235f95377bda5449c7939e0ad58df945c3a7c09d3fa33a44"), looks := true }, kinds := [], alts := [], laidByText := true, laidKinds := [.handle], laidTests := true, laidLooks := .later }
def AuditChecksCardSaid : Prop := Claim7.holds Tryz.pinned (.plain (OpenSpec.ofChange auditChecksSpec)) auditChecksCard

/-- THE TIED CARD OF 'lockboxlaw23.AuditApplies'. -/
def auditAppliesCard : Claim7 := { stood := { row := auditAppliesRow, standIns := [], harness := (true, "3a05d988fa47357c235f95377bda5449c7939e0ad58df945c3a7c09d3fa33a44"), looks := true }, kinds := [], alts := [], laidByText := true, laidKinds := [.handle], laidTests := true, laidLooks := .later }
def AuditAppliesCardSaid : Prop := Claim7.holds Tryz.pinned (.plain (OpenSpec.ofChange auditAppliesSpec)) auditAppliesCard

/-- THE TIED CARD OF 'lockboxlaw24.GuardEnters'. -/
def guardEntersCard : Claim7 := { stood := { row := guardEntersRow, standIns := [], harness := (true, "3a05d988fa47357c235f95377bda5449c7939e0ad58df945c3a7c09d3fa33a44"), looks := true }, kinds := [], alts := [], laidByText := true, laidKinds := [.handle], laidTests := true, laidLooks := .later }
def GuardEntersCardSaid : Prop := Claim7.holds Tryz.pinned (.plain (OpenSpec.ofChange guardEntersSpec)) guardEntersCard

/-- THE TIED CARD OF 'lockboxlaw24.GuardTwo'. -/
def guardTwoCard : Claim7 := { stood := { row := guardTwoRow, standIns := [], harness := (true, "3a05d988fa47357c235f95377bda5449c7939e0ad58df945c3a7c09d3fa33a44"), looks := true }, kinds := [], alts := [], laidByText := true, laidKinds := [.handle], laidTests := true, laidLooks := .later }
def GuardTwoCardSaid : Prop := Claim7.holds Tryz.pinned (.plain (OpenSpec.ofChange guardTwoSpec)) guardTwoCard

/-- THE TIED CARD OF 'lockboxlaw15.OffsetNaturals'. -/
def offsetNaturalsCard : Claim7 := { stood := { row := offsetNaturalsRow, standIns := [], harness := (true, "3a05d988fa47357c235f95377bda5449c7939e0ad58df945c3a7c09d3fa33a44"), looks := true }, kinds := [], alts := [], laidByText := true, laidKinds := [.handle], laidTests := true, laidLooks := .later }
def OffsetNaturalsCardSaid : Prop := Claim7.holds Tryz.pinned (.plain (OpenSpec.ofChange offsetNaturalsSpec)) offsetNaturalsCard

/-- THE TIED CARD OF 'lockboxlaw15.OffsetOfs'. -/
def offsetOfsCard : Claim7 := { stood := { row := offsetOfsRow, standIns := [], harness := (true, "3a05d988fa47357c235f95377bda5449c7939e0ad58df945c3a7c09d3fa33a44"), looks := true }, kinds := [], alts := [], laidByText := true, laidKinds := [.handle], laidTests := true, laidLooks := .later }
def OffsetOfsCardSaid : Prop := Claim7.holds Tryz.pinned (.plain (OpenSpec.ofChange offsetOfsSpec)) offsetOfsCard

/-- THE TIED CARD OF 'lockboxlaw15.OffsetVerifies'. -/
def offsetVerifiesCard : Claim7 := { stood := { row := offsetVerifiesRow, standIns := [], harness := (true, "3a05d988fa47357c235f95377bda5449c7939e0ad58df945c3a7c09d3fa33a44"), looks := true }, kinds := [], alts := [], laidByText := true, laidKinds := [.handle], laidTests := true, laidLooks := .later }
def OffsetVerifiesCardSaid : Prop := Claim7.holds Tryz.pinned (.plain (OpenSpec.ofChange offsetVerifiesSpec)) offsetVerifiesCard

/-- THE SECOND FORM's CARD OF 'lockboxlaw06.ModeDoes'. -/
def modeDoesUptoCard : Claim7 := { stood := { row := modeDoesUptoRow, standIns := [], harness := (true, "3a05d988fa47357c235f95377bda5449c7939e0ad58df945c3a7c09d3fa33a44"), looks := true }, kinds := [], alts := [], laidByText := true, laidKinds := [.handle], laidTests := true, laidLooks := .later }
def ModeDoesUptoCardSaid : Prop := Claim7.holds Tryz.pinned (.plain (OpenSpec.upto modeDoesSpec)) modeDoesUptoCard

/-- THE SECOND FORM's CARD OF 'lockboxlaw07.MacCmacs'. -/
def macCmacsUptoCard : Claim7 := { stood := { row := macCmacsUptoRow, standIns := [], harness := (true, "3a05d988fa47357c235f95377bda5449c7939e0ad58df945c3a7c09d3fa33a44"), looks := true }, kinds := [], alts := [], laidByText := true, laidKinds := [.handle], laidTests := true, laidLooks := .later }
def MacCmacsUptoCardSaid : Prop := Claim7.holds Tryz.pinned (.plain (OpenSpec.upto macCmacsSpec)) macCmacsUptoCard

/-- THE SECOND FORM's CARD OF 'lockboxlaw23.AuditNexts'. -/
def auditNextsUptoCard : Claim7 := { stood := { row := auditNextsUptoRow, standIns := [], harness := (true, "3a05d988fa47357c235f95377bda5449c7939e0ad58df945c3a7c09d3fa33a44"), looks := true }, kinds := [], alts := [], laidByText := true, laidKinds := [.handle], laidTests := true, laidLooks := .later }
def AuditNextsUptoCardSaid : Prop := Claim7.holds Tryz.pinned (.plain (OpenSpec.upto auditNextsSpec)) auditNextsUptoCard

/-- THE SECOND FORM's CARD OF 'lockboxlaw23.AuditChecks'. -/
def auditChecksUptoCard : Claim7 := { stood := { row := auditChecksUptoRow, standIns := [], harness := (true, "3a05d988fa47357c235f95377bda5449c7939e0ad58df945c3a7c09d3fa33a44"), looks := true }, kinds := [], alts := [], laidByText := true, laidKinds := [.handle], laidTests := true, laidLooks := .later }
def AuditChecksUptoCardSaid : Prop := Claim7.holds Tryz.pinned (.plain (OpenSpec.upto auditChecksSpec)) auditChecksUptoCard

/-- THE SECOND FORM's CARD OF 'lockboxlaw23.AuditApplies'. -/
def auditAppliesUptoCard : Claim7 := { stood := { row := auditAppliesUptoRow, standIns := [], harness := (true, "3a05d988fa47357c235f95377bda5449c7939e0ad58df945c3a7c09d3fa33a44"), looks := true }, kinds := [], alts := [], laidByText := true, laidKinds := [.handle], laidTests := true, laidLooks := .later }
def AuditAppliesUptoCardSaid : Prop := Claim7.holds Tryz.pinned (.plain (OpenSpec.upto auditAppliesSpec)) auditAppliesUptoCard

/-- THE SECOND FORM's CARD OF 'lockboxlaw24.GuardEnters'. -/
def guardEntersUptoCard : Claim7 := { stood := { row := guardEntersUptoRow, standIns := [], harness := (true, "3a05d988fa47357c235f95377bda5449c7939e0ad58df945c3a7c09d3fa33a44"), looks := true }, kinds := [], alts := [], laidByText := true, laidKinds := [.handle], laidTests := true, laidLooks := .later }
def GuardEntersUptoCardSaid : Prop := Claim7.holds Tryz.pinned (.plain (OpenSpec.upto guardEntersSpec)) guardEntersUptoCard

/-- THE SECOND FORM's CARD OF 'lockboxlaw24.GuardTwo'. -/
def guardTwoUptoCard : Claim7 := { stood := { row := guardTwoUptoRow, standIns := [], harness := (true, "3a05d988fa47357c235f95377bda5449c7939e0ad58df945c3a7c09d3fa33a44"), looks := true }, kinds := [], alts := [], laidByText := true, laidKinds := [.handle], laidTests := true, laidLooks := .later }
def GuardTwoUptoCardSaid : Prop := Claim7.holds Tryz.pinned (.plain (OpenSpec.upto guardTwoSpec)) guardTwoUptoCard

/-- THE SECOND FORM's CARD OF 'lockboxlaw15.OffsetNaturals'. -/
def offsetNaturalsUptoCard : Claim7 := { stood := { row := offsetNaturalsUptoRow, standIns := [], harness := (true, "3a05d988fa47357c235f95377bda5449c7939e0ad58df945c3a7c09d3fa33a44"), looks := true }, kinds := [], alts := [], laidByText := true, laidKinds := [.handle], laidTests := true, laidLooks := .later }
def OffsetNaturalsUptoCardSaid : Prop := Claim7.holds Tryz.pinned (.plain (OpenSpec.upto offsetNaturalsSpec)) offsetNaturalsUptoCard

/-- THE SECOND FORM's CARD OF 'lockboxlaw15.OffsetOfs'. -/
def offsetOfsUptoCard : Claim7 := { stood := { row := offsetOfsUptoRow, standIns := [], harness := (true, "3a05d988fa47357c235f95377bda5449c7939e0ad58df945c3a7c09d3fa33a44"), looks := true }, kinds := [], alts := [], laidByText := true, laidKinds := [.handle], laidTests := true, laidLooks := .later }
def OffsetOfsUptoCardSaid : Prop := Claim7.holds Tryz.pinned (.plain (OpenSpec.upto offsetOfsSpec)) offsetOfsUptoCard

/-- THE SECOND FORM's CARD OF 'lockboxlaw15.OffsetVerifies'. -/
def offsetVerifiesUptoCard : Claim7 := { stood := { row := offsetVerifiesUptoRow, standIns := [], harness := (true, "3a05d988fa47357c235f95377bda5449c7939e0ad58df945c3a7c09d3fa33a44"), looks := true }, kinds := [], alts := [], laidByText := true, laidKinds := [.handle], laidTests := true, laidLooks := .later }
def OffsetVerifiesUptoCardSaid : Prop := Claim7.holds Tryz.pinned (.plain (OpenSpec.upto offsetVerifiesSpec)) offsetVerifiesUptoCard
end Rows
end Go.Proofs.YtpfmhohldfnhmaaGreatDoor
