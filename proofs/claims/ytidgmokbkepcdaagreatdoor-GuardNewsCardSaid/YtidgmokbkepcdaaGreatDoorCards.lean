/-
  DERIVED. GIVEN WITH THE SEED: THE CARDS: each row of YtidgmokbkepcdaaGreatDoorRows.lean that lists a variable, with what it lists TIED to the program's text (the seventh form; the later family's looks); each row that meets fmt, with fmt's text TOLD by the authors' own Lean function (tested against real Go, not proved from fmt's source: count such statements apart). THE CARD IS WHAT COUNTS. Prove the row's statement (the work); the ties are given (YtidgmokbkepcdaaGreatDoorTie.lean); close each card by the builder's one call (the guide's Derived/Test/ToyasCard.lean, 'card_holds'). Laid BY PROGRAM, IN A SANDBOX (cutbox-door.mjs). By AI agents, Wed Nov 11 2026. No macro, syntax, notation, axiom, sorry.
-/
import Derived.Test.YtidgmokbkepcdaaGreatDoorRows
import GoSem.ClaimSeven
namespace Go.Proofs.YtidgmokbkepcdaaGreatDoor
namespace Rows

/-- THE TIED CARD OF 'lockboxlaw06.ModeDoes'. -/
def modeDoesCard : Claim7 := { stood := { row := modeDoesRow, standIns := [], harness := (true, "5c7ead978bf2a56e6a46a70a7337108a1831cbd0c46db623aa94d95120778170"), looks := true }, kinds := [], alts := [], laidByText := true, laidKinds := [.handle], laidTests := true, laidLooks := .later }
def ModeDoesCardSaid : Prop := Claim7.holds Tryz.pinned (.plain (OpenSpec.ofChange modeDoesSpec)) modeDoesCard

/-- THE TIED CARD OF 'lockboxlaw07.MacCmacs'. -/
def macCmacsCard : Claim7 := { stood := { row := macCmacsRow, standIns := [], harness := (true, "5c7ead978bf2a56e6a46a70a7337108a1831cbd0c46db623aa94d95120778170"), looks := true }, kinds := [], alts := [], laidByText := true, laidKinds := [.handle], laidTests := true, laidLooks := .later }
def MacCmacsCardSaid : Prop := Claim7.holds Tryz.pinned (.plain (OpenSpec.ofChange macCmacsSpec)) macCmacsCard

/-- THE TIED CARD OF 'lockboxlaw23.AuditNexts'. -/
def auditNextsCard : Claim7 := { stood := { row := auditNextsRow, standIns := [], harness := (true, "5c7ead978bf2a56e6a46a70a7337108a1831cbd0c46db623aa94d95120778170"), looks := true }, kinds := [], alts := [], laidByText := true, laidKinds := [.handle], laidTests := true, laidLooks := .later }
def AuditNextsCardSaid : Prop := Claim7.holds Tryz.pinned (.plain (OpenSpec.ofChange auditNextsSpec)) auditNextsCard

/-- THE TIED CARD OF 'lockboxlaw23.AuditChecks'. -/
def auditChecksCard : Claim7 := { stood := { row := auditChecksRow, standIns := [], harness := (true, "5c7ead978bf2a56e6a46a70a7337108a1831cbd0c46db623aa94d95120778170"), looks := true }, kinds := [], alts := [], laidByText := true, laidKinds := [.handle], laidTests := true, laidLooks := .later }
def AuditChecksCardSaid : Prop := Claim7.holds Tryz.pinned (.plain (OpenSpec.ofChange auditChecksSpec)) auditChecksCard

/-- THE TIED CARD OF 'lockboxlaw23.AuditApplies'. -/
def auditAppliesCard : Claim7 := { stood := { row := auditAppliesRow, standIns := [], harness := (true, "5c7ead978bf2a56e6a46a70a7337108a1831cbd0c46db623aa94d95120778170"), looks := true }, kinds := [], alts := [], laidByText := true, laidKinds := [.handle], laidTests := true, laidLooks := .later }
def AuditAppliesCardSaid : Prop := Claim7.holds Tryz.pinned (.plain (OpenSpec.ofChange auditAppliesSpec)) auditAppliesCard

/-- THE TIED CARD OF 'lockboxlaw24.GuardNews'. -/
def guardNewsCard : Claim7 := { stood := { row := guardNewsRow, standIns := [], harness := (true, "5c7ead978bf2a56e6a46a70a7337108a1831cbd0c46db623aa94d95120778170"), looks := true }, kinds := [], alts := [], laidByText := true, laidKinds := [.handle], laidTests := true, laidLooks := .later }
def GuardNewsCardSaid : Prop := Claim7.holds Tryz.pinned (.plain (OpenSpec.ofChange guardNewsSpec)) guardNewsCard

/-- THE TIED CARD OF 'lockboxlaw24.GuardEnters'. -/
def guardEntersCard : Claim7 := { stood := { row := guardEntersRow, standIns := [], harness := (true, "5c7ead978bf2a56e6a46a70a7337108a1831cbd0c46db623aa94d95120778170"), looks := true }, kinds := [], alts := [], laidByText := true, laidKinds := [.handle], laidTests := true, laidLooks := .later }
def GuardEntersCardSaid : Prop := Claim7.holds Tryz.pinned (.plain (OpenSpec.ofChange guardEntersSpec)) guardEntersCard

/-- THE TIED CARD OF 'lockboxlaw24.GuardTwo'. -/
def guardTwoCard : Claim7 := { stood := { row := guardTwoRow, standIns := [], harness := (true, "5c7ead978bf2a56e6a46a70a7337108a1831cbd0c46db623aa94d95120778170"), looks := true }, kinds := [], alts := [], laidByText := true, laidKinds := [.handle], laidTests := true, laidLooks := .later }
def GuardTwoCardSaid : Prop := Claim7.holds Tryz.pinned (.plain (OpenSpec.ofChange guardTwoSpec)) guardTwoCard

/-- THE TIED CARD OF 'lockboxlaw09.PartValues'. -/
def partValuesCard : Claim7 := { stood := { row := partValuesRow, standIns := [], harness := (true, "5c7ead978bf2a56e6a46a70a7337108a1831cbd0c46db623aa94d95120778170"), looks := true }, kinds := [], alts := [], laidByText := true, laidKinds := [.handle], laidTests := true, laidLooks := .later }
def PartValuesCardSaid : Prop := Claim7.holds Tryz.pinned (.plain (OpenSpec.ofChange partValuesSpec)) partValuesCard

/-- THE SECOND FORM's CARD OF 'lockboxlaw06.ModeDoes'. -/
def modeDoesUptoCard : Claim7 := { stood := { row := modeDoesUptoRow, standIns := [], harness := (true, "5c7ead978bf2a56e6a46a70a7337108a1831cbd0c46db623aa94d95120778170"), looks := true }, kinds := [], alts := [], laidByText := true, laidKinds := [.handle], laidTests := true, laidLooks := .later }
def ModeDoesUptoCardSaid : Prop := Claim7.holds Tryz.pinned (.plain (OpenSpec.upto modeDoesSpec)) modeDoesUptoCard

/-- THE SECOND FORM's CARD OF 'lockboxlaw07.MacCmacs'. -/
def macCmacsUptoCard : Claim7 := { stood := { row := macCmacsUptoRow, standIns := [], harness := (true, "5c7ead978bf2a56e6a46a70a7337108a1831cbd0c46db623aa94d95120778170"), looks := true }, kinds := [], alts := [], laidByText := true, laidKinds := [.handle], laidTests := true, laidLooks := .later }
def MacCmacsUptoCardSaid : Prop := Claim7.holds Tryz.pinned (.plain (OpenSpec.upto macCmacsSpec)) macCmacsUptoCard

/-- THE SECOND FORM's CARD OF 'lockboxlaw23.AuditNexts'. -/
def auditNextsUptoCard : Claim7 := { stood := { row := auditNextsUptoRow, standIns := [], harness := (true, "5c7ead978bf2a56e6a46a70a7337108a1831cbd0c46db623aa94d95120778170"), looks := true }, kinds := [], alts := [], laidByText := true, laidKinds := [.handle], laidTests := true, laidLooks := .later }
def AuditNextsUptoCardSaid : Prop := Claim7.holds Tryz.pinned (.plain (OpenSpec.upto auditNextsSpec)) auditNextsUptoCard

/-- THE SECOND FORM's CARD OF 'lockboxlaw23.AuditChecks'. -/
def auditChecksUptoCard : Claim7 := { stood := { row := auditChecksUptoRow, standIns := [], harness := (true, "5c7ead978bf2a56e6a46a70a7337108a1831cbd0c46db623aa94d95120778170"), looks := true }, kinds := [], alts := [], laidByText := true, laidKinds := [.handle], laidTests := true, laidLooks := .later }
def AuditChecksUptoCardSaid : Prop := Claim7.holds Tryz.pinned (.plain (OpenSpec.upto auditChecksSpec)) auditChecksUptoCard

/-- THE SECOND FORM's CARD OF 'lockboxlaw23.AuditApplies'. -/
def auditAppliesUptoCard : Claim7 := { stood := { row := auditAppliesUptoRow, standIns := [], harness := (true, "5c7ead978bf2a56e6a46a70a7337108a1831cbd0c46db623aa94d95120778170"), looks := true }, kinds := [], alts := [], laidByText := true, laidKinds := [.handle], laidTests := true, laidLooks := .later }
def AuditAppliesUptoCardSaid : Prop := Claim7.holds Tryz.pinned (.plain (OpenSpec.upto auditAppliesSpec)) auditAppliesUptoCard

/-- THE SECOND FORM's CARD OF 'lockboxlaw24.GuardNews'. -/
def guardNewsUptoCard : Claim7 := { stood := { row := guardNewsUptoRow, standIns := [], harness := (true, "5c7ead978bf2a56e6a46a70a7337108a1831cbd0c46db623aa94d95120778170"), looks := true }, kinds := [], alts := [], laidByText := true, laidKinds := [.handle], laidTests := true, laidLooks := .later }
def GuardNewsUptoCardSaid : Prop := Claim7.holds Tryz.pinned (.plain (OpenSpec.upto guardNewsSpec)) guardNewsUptoCard

/-- THE SECOND FORM's CARD OF 'lockboxlaw24.GuardEnters'. -/
def guardEntersUptoCard : Claim7 := { stood := { row := guardEntersUptoRow, standIns := [], harness := (true, "5c7ead978bf2a56e6a46a70a7337108a1831cbd0c46db623aa94d95120778170"), looks := true }, kinds := [], alts := [], laidByText := true, laidKinds := [.handle], laidTests := true, laidLooks := .later }
def GuardEntersUptoCardSaid : Prop := Claim7.holds Tryz.pinned (.plain (OpenSpec.upto guardEntersSpec)) guardEntersUptoCard

/-- THE SECOND FORM's CARD OF 'lockboxlaw24.GuardTwo'. -/
def guardTwoUptoCard : Claim7 := { stood := { row := guardTwoUptoRow, standIns := [], harness := (true, "5c7ead978bf2a56e6a46a70a7337108a1831cbd0c46db623aa94d95120778170"), looks := true }, kinds := [], alts := [], laidByText := true, laidKinds := [.handle], laidTests := true, laidLooks := .later }
def GuardTwoUptoCardSaid : Prop := Claim7.holds Tryz.pinned (.plain (OpenSpec.upto guardTwoSpec)) guardTwoUptoCard

/-- THE SECOND FORM's CARD OF 'lockboxlaw09.PartValues'. -/
def partValuesUptoCard : Claim7 := { stood := { row := partValuesUptoRow, standIns := [], harness := (true, "5c7ead978bf2a56e6a46a70a7337108a1831cbd0c46db623aa94d95120778170"), looks := true }, kinds := [], alts := [], laidByText := true, laidKinds := [.handle], laidTests := true, laidLooks := .later }
def PartValuesUptoCardSaid : Prop := Claim7.holds Tryz.pinned (.plain (OpenSpec.upto partValuesSpec)) partValuesUptoCard
end Rows
end Go.Proofs.YtidgmokbkepcdaaGreatDoor
