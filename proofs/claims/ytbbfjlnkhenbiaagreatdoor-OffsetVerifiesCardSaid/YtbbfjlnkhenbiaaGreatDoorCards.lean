/-
  DERIVED. GIVEN WITH THE SEED: THE CARDS: each row of YtbbfjlnkhenbiaaGreatDoorRows.lean that lists a variable, with what it lists TIED to the program's text (the seventh form; the later family's looks); each row that meets fmt, with fmt's text TOLD by the authors' own Lean function (tested against real Go, not proved from fmt's source: count such statements apart). THE CARD IS WHAT COUNTS. Prove the row's statement (the work); the ties are given (YtbbfjlnkhenbiaaGreatDoorTie.lean); close each card by the builder's one call (the guide's Derived/Test/ToyasCard.lean, 'card_holds'). Laid BY PROGRAM, IN A SANDBOX (cutbox-door.mjs). By AI agents, Wed Nov 11 2026. No macro, syntax, notation, axiom, sorry.
-/
import Derived.Test.YtbbfjlnkhenbiaaGreatDoorRows
import GoSem.ClaimSeven
namespace Go.Proofs.YtbbfjlnkhenbiaaGreatDoor
namespace Rows

/-- THE TIED CARD OF 'lockboxlaw06.ModeDoes'. -/
def modeDoesCard : Claim7 := { stood := { row := modeDoesRow, standIns := [], harness := (true, "4736a4bc1d7c2a11b3f22ede3d728542dee251bc231c57510651c71e852807fa"), looks := true }, kinds := [], alts := [], laidByText := true, laidKinds := [.handle], laidTests := true, laidLooks := .later }
def ModeDoesCardSaid : Prop := Claim7.holds Tryz.pinned (.plain (OpenSpec.ofChange modeDoesSpec)) modeDoesCard

/-- THE TIED CARD OF 'lockboxlaw07.MacCmacs'. -/
def macCmacsCard : Claim7 := { stood := { row := macCmacsRow, standIns := [], harness := (true, "4736a4bc1d7c2a11b3f22ede3d728542dee251bc231c57510651c71e852807fa"), looks := true }, kinds := [], alts := [], laidByText := true, laidKinds := [.handle], laidTests := true, laidLooks := .later }
def MacCmacsCardSaid : Prop := Claim7.holds Tryz.pinned (.plain (OpenSpec.ofChange macCmacsSpec)) macCmacsCard

/-- THE TIED CARD OF 'lockboxlaw24.GuardTwo'. -/
def guardTwoCard : Claim7 := { stood := { row := guardTwoRow, standIns := [], harness := (true, "4736a4bc1d7c2a11b3f22ede3d728542dee251bc231c57510651c71e852807fa"), looks := true }, kinds := [], alts := [], laidByText := true, laidKinds := [.handle], laidTests := true, laidLooks := .later }
def GuardTwoCardSaid : Prop := Claim7.holds Tryz.pinned (.plain (OpenSpec.ofChange guardTwoSpec)) guardTwoCard

/-- THE TIED CARD OF 'lockboxlaw15.OffsetNaturals'. -/
def offsetNaturalsCard : Claim7 := { stood := { row := offsetNaturalsRow, standIns := [], harness := (true, "4736a4bc1d7c2a11b3f22ede3d728542dee251bc231c57510651c71e852807fa"), looks := true }, kinds := [], alts := [], laidByText := true, laidKinds := [.handle], laidTests := true, laidLooks := .later }
def OffsetNaturalsCardSaid : Prop := Claim7.holds Tryz.pinned (.plain (OpenSpec.ofChange offsetNaturalsSpec)) offsetNaturalsCard

/-- THE TIED CARD OF 'lockboxlaw15.OffsetOfs'. -/
def offsetOfsCard : Claim7 := { stood := { row := offsetOfsRow, standIns := [], harness := (true, "4736a4bc1d7c2a11b3f22ede3d728542dee251bc231c57510651c71e852807fa"), looks := true }, kinds := [], alts := [], laidByText := true, laidKinds := [.handle], laidTests := true, laidLooks := .later }
def OffsetOfsCardSaid : Prop := Claim7.holds Tryz.pinned (.plain (OpenSpec.ofChange offsetOfsSpec)) offsetOfsCard

/-- THE TIED CARD OF 'lockboxlaw15.OffsetVerifies'. -/
def offsetVerifiesCard : Claim7 := { stood := { row := offsetVerifiesRow, standIns := [], harness := (true, "4736a4bc1d7c2a11b3f22ede3d728542dee251bc231c57510651c71e852807fa"), looks := true }, kinds := [], alts := [], laidByText := true, laidKinds := [.handle], laidTests := true, laidLooks := .later }
def OffsetVerifiesCardSaid : Prop := Claim7.holds Tryz.pinned (.plain (OpenSpec.ofChange offsetVerifiesSpec)) offsetVerifiesCard

/-- THE SECOND FORM's CARD OF 'lockboxlaw06.ModeDoes'. -/
def modeDoesUptoCard : Claim7 := { stood := { row := modeDoesUptoRow, standIns := [], harness := (true, "4736a4bc1d7c2a11b3f22ede3d728542dee251bc231c57510651c71e852807fa"), looks := true }, kinds := [], alts := [], laidByText := true, laidKinds := [.handle], laidTests := true, laidLooks := .later }
def ModeDoesUptoCardSaid : Prop := Claim7.holds Tryz.pinned (.plain (OpenSpec.upto modeDoesSpec)) modeDoesUptoCard

/-- THE SECOND FORM's CARD OF 'lockboxlaw07.MacCmacs'. -/
def macCmacsUptoCard : Claim7 := { stood := { row := macCmacsUptoRow, standIns := [], harness := (true, "4736a4bc1d7c2a11b3f22ede3d728542dee251bc231c57510651c71e852807fa"), looks := true }, kinds := [], alts := [], laidByText := true, laidKinds := [.handle], laidTests := true, laidLooks := .later }
def MacCmacsUptoCardSaid : Prop := Claim7.holds Tryz.pinned (.plain (OpenSpec.upto macCmacsSpec)) macCmacsUptoCard

/-- THE SECOND FORM's CARD OF 'lockboxlaw24.GuardTwo'. -/
def guardTwoUptoCard : Claim7 := { stood := { row := guardTwoUptoRow, standIns := [], harness := (true, "4736a4bc1d7c2a11b3f22ede3d728542dee251bc231c57510651c71e852807fa"), looks := true }, kinds := [], alts := [], laidByText := true, laidKinds := [.handle], laidTests := true, laidLooks := .later }
def GuardTwoUptoCardSaid : Prop := Claim7.holds Tryz.pinned (.plain (OpenSpec.upto guardTwoSpec)) guardTwoUptoCard

/-- THE SECOND FORM's CARD OF 'lockboxlaw15.OffsetNaturals'. -/
def offsetNaturalsUptoCard : Claim7 := { stood := { row := offsetNaturalsUptoRow, standIns := [], harness := (true, "4736a4bc1d7c2a11b3f22ede3d728542dee251bc231c57510651c71e852807fa"), looks := true }, kinds := [], alts := [], laidByText := true, laidKinds := [.handle], laidTests := true, laidLooks := .later }
def OffsetNaturalsUptoCardSaid : Prop := Claim7.holds Tryz.pinned (.plain (OpenSpec.upto offsetNaturalsSpec)) offsetNaturalsUptoCard

/-- THE SECOND FORM's CARD OF 'lockboxlaw15.OffsetOfs'. -/
def offsetOfsUptoCard : Claim7 := { stood := { row := offsetOfsUptoRow, standIns := [], harness := (true, "4736a4bc1d7c2a11b3f22ede3d728542dee251bc231c57510651c71e852807fa"), looks := true }, kinds := [], alts := [], laidByText := true, laidKinds := [.handle], laidTests := true, laidLooks := .later }
def OffsetOfsUptoCardSaid : Prop := Claim7.holds Tryz.pinned (.plain (OpenSpec.upto offsetOfsSpec)) offsetOfsUptoCard

/-- THE SECOND FORM's CARD OF 'lockboxlaw15.OffsetVerifies'. -/
def offsetVerifiesUptoCard : Claim7 := { stood := { row := offsetVerifiesUptoRow, standIns := [], harness := (true, "4736a4bc1d7c2a11b3f22ede3d728542dee251bc231c57510651c71e852807fa"), looks := true }, kinds := [], alts := [], laidByText := true, laidKinds := [.handle], laidTests := true, laidLooks := .later }
def OffsetVerifiesUptoCardSaid : Prop := Claim7.holds Tryz.pinned (.plain (OpenSpec.upto offsetVerifiesSpec)) offsetVerifiesUptoCard
end Rows
end Go.Proofs.YtbbfjlnkhenbiaaGreatDoor
