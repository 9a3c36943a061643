/-
  DERIVED. GIVEN WITH THE SEED: THE CARDS: each row of YtbbfjlnkhenbiaaDoorRows.lean that lists a variable, with what it lists TIED to the program's text (the seventh form; the later family's looks); each row that meets fmt, with fmt's text TOLD by the authors' own Lean function (tested against real Go, not proved from fmt's source: count such statements apart). THE CARD IS WHAT COUNTS. Prove the row's statement (the work); the ties are given (YtbbfjlnkhenbiaaDoorTie.lean); close each card by the builder's one call (the guide's Derived/Test/ToyasCard.lean, 'card_holds'). Laid BY PROGRAM, IN A SANDBOX (cutbox-door.mjs). By AI agents, Wed Nov 11 2026. No macro, syntax, notation, axiom, sorry.
-/
import Derived.Test.YtbbfjlnkhenbiaaDoorRows
import GoSem.ClaimSeven
namespace Go.Proofs.YtbbfjlnkhenbiaaDoor
namespace Rows

/-- THE TIED CARD OF 'lockboxlaw05.BlockNews'. -/
def blockNewsCard : Claim7 := { stood := { row := blockNewsRow, standIns := [], harness := (true, "ee270539b4f67e477ad7bbb92b61b104b35191debdef8cb44a0abfd087db6748"), looks := true }, kinds := [], alts := [], laidByText := true, laidKinds := [.handle], laidTests := true, laidLooks := .later }
def BlockNewsCardSaid : Prop := Claim7.holds Tryd.pinned (.plain (OpenSpec.ofChange blockNewsSpec)) blockNewsCard

/-- THE TIED CARD OF 'lockboxlaw05.BlockAsks'. -/
def blockAsksCard : Claim7 := { stood := { row := blockAsksRow, standIns := [], harness := (true, "ee270539b4f67e477ad7bbb92b61b104b35191debdef8cb44a0abfd087db6748"), looks := true }, kinds := [], alts := [], laidByText := true, laidKinds := [.handle], laidTests := true, laidLooks := .later }
def BlockAsksCardSaid : Prop := Claim7.holds Tryd.pinned (.plain (OpenSpec.ofChange blockAsksSpec)) blockAsksCard

/-- THE TIED CARD OF 'lockboxlaw05.BlockBack'. -/
def blockBackCard : Claim7 := { stood := { row := blockBackRow, standIns := [], harness := (true, "ee270539b4f67e477ad7bbb92b61b104b35191debdef8cb44a0abfd087db6748"), looks := true }, kinds := [], alts := [], laidByText := true, laidKinds := [.handle], laidTests := true, laidLooks := .later }
def BlockBackCardSaid : Prop := Claim7.holds Tryd.pinned (.plain (OpenSpec.ofChange blockBackSpec)) blockBackCard

/-- THE TIED CARD OF 'lockboxlaw05.BlockOne'. -/
def blockOneCard : Claim7 := { stood := { row := blockOneRow, standIns := [], harness := (true, "ee270539b4f67e477ad7bbb92b61b104b35191debdef8cb44a0abfd087db6748"), looks := true }, kinds := [], alts := [], laidByText := true, laidKinds := [.handle], laidTests := true, laidLooks := .later }
def BlockOneCardSaid : Prop := Claim7.holds Tryd.pinned (.plain (OpenSpec.ofChange blockOneSpec)) blockOneCard

/-- THE TIED CARD OF 'lockboxlaw05.BlockKeeps'. -/
def blockKeepsCard : Claim7 := { stood := { row := blockKeepsRow, standIns := [], harness := (true, "ee270539b4f67e477ad7bbb92b61b104b35191debdef8cb44a0abfd087db6748"), looks := true }, kinds := [], alts := [], laidByText := true, laidKinds := [.handle], laidTests := true, laidLooks := .later }
def BlockKeepsCardSaid : Prop := Claim7.holds Tryd.pinned (.plain (OpenSpec.ofChange blockKeepsSpec)) blockKeepsCard

/-- THE TIED CARD OF 'lockboxlaw05.BlockRows'. -/
def blockRowsCard : Claim7 := { stood := { row := blockRowsRow, standIns := [], harness := (true, "ee270539b4f67e477ad7bbb92b61b104b35191debdef8cb44a0abfd087db6748"), looks := true }, kinds := [], alts := [], laidByText := true, laidKinds := [.handle], laidTests := true, laidLooks := .later }
def BlockRowsCardSaid : Prop := Claim7.holds Tryd.pinned (.plain (OpenSpec.ofChange blockRowsSpec)) blockRowsCard

/-- THE TIED CARD OF 'lockboxlaw15.OffsetBack'. -/
def offsetBackCard : Claim7 := { stood := { row := offsetBackRow, standIns := [], harness := (true, "ee270539b4f67e477ad7bbb92b61b104b35191debdef8cb44a0abfd087db6748"), looks := true }, kinds := [], alts := [], laidByText := true, laidKinds := [.handle], laidTests := true, laidLooks := .later }
def OffsetBackCardSaid : Prop := Claim7.holds Tryd.pinned (.plain (OpenSpec.ofChange offsetBackSpec)) offsetBackCard

/-- THE SECOND FORM's CARD OF 'lockboxlaw05.BlockNews'. -/
def blockNewsUptoCard : Claim7 := { stood := { row := blockNewsUptoRow, standIns := [], harness := (true, "ee270539b4f67e477ad7bbb92b61b104b35191debdef8cb44a0abfd087db6748"), looks := true }, kinds := [], alts := [], laidByText := true, laidKinds := [.handle], laidTests := true, laidLooks := .later }
def BlockNewsUptoCardSaid : Prop := Claim7.holds Tryd.pinned (.plain (OpenSpec.upto blockNewsSpec)) blockNewsUptoCard

/-- THE SECOND FORM's CARD OF 'lockboxlaw05.BlockAsks'. -/
def blockAsksUptoCard : Claim7 := { stood := { row := blockAsksUptoRow, standIns := [], harness := (true, "ee270539b4f67e477ad7bbb92b61b104b35191debdef8cb44a0abfd087db6748"), looks := true }, kinds := [], alts := [], laidByText := true, laidKinds := [.handle], laidTests := true, laidLooks := .later }
def BlockAsksUptoCardSaid : Prop := Claim7.holds Tryd.pinned (.plain (OpenSpec.upto blockAsksSpec)) blockAsksUptoCard

/-- THE SECOND FORM's CARD OF 'lockboxlaw05.BlockBack'. -/
def blockBackUptoCard : Claim7 := { stood := { row := blockBackUptoRow, standIns := [], harness := (true, "ee270539b4f67e477ad7bbb92b61b104b35191debdef8cb44a0abfd087db6748"), looks := true }, kinds := [], alts := [], laidByText := true, laidKinds := [.handle], laidTests := true, laidLooks := .later }
def BlockBackUptoCardSaid : Prop := Claim7.holds Tryd.pinned (.plain (OpenSpec.upto blockBackSpec)) blockBackUptoCard

/-- THE SECOND FORM's CARD OF 'lockboxlaw05.BlockOne'. -/
def blockOneUptoCard : Claim7 := { stood := { row := blockOneUptoRow, standIns := [], harness := (true, "ee270539b4f67e477ad7bbb92b61b104b35191debdef8cb44a0abfd087db6748"), looks := true }, kinds := [], alts := [], laidByText := true, laidKinds := [.handle], laidTests := true, laidLooks := .later }
def BlockOneUptoCardSaid : Prop := Claim7.holds Tryd.pinned (.plain (OpenSpec.upto blockOneSpec)) blockOneUptoCard

/-- THE SECOND FORM's CARD OF 'lockboxlaw05.BlockKeeps'. -/
def blockKeepsUptoCard : Claim7 := { stood := { row := blockKeepsUptoRow, standIns := [], harness := (true, "ee270539b4f67e477ad7bbb92b61b104b35191debdef8cb44a0abfd087db6748"), looks := true }, kinds := [], alts := [], laidByText := true, laidKinds := [.handle], laidTests := true, laidLooks := .later }
def BlockKeepsUptoCardSaid : Prop := Claim7.holds Tryd.pinned (.plain (OpenSpec.upto blockKeepsSpec)) blockKeepsUptoCard

/-- THE SECOND FORM's CARD OF 'lockboxlaw05.BlockRows'. -/
def blockRowsUptoCard : Claim7 := { stood := { row := blockRowsUptoRow, standIns := [], harness := (true, "ee270539b4f67e477ad7bbb92b61b104b35191debdef8cb44a0abfd087db6748"), looks := true }, kinds := [], alts := [], laidByText := true, laidKinds := [.handle], laidTests := true, laidLooks := .later }
def BlockRowsUptoCardSaid : Prop := Claim7.holds Tryd.pinned (.plain (OpenSpec.upto blockRowsSpec)) blockRowsUptoCard

/-- THE SECOND FORM's CARD OF 'lockboxlaw15.OffsetBack'. -/
def offsetBackUptoCard : Claim7 := { stood := { row := offsetBackUptoRow, standIns := [], harness := (true, "ee270539b4f67e477ad7bbb92b61b104b35191debdef8cb44a0abfd087db6748"), looks := true }, kinds := [], alts := [], laidByText := true, laidKinds := [.handle], laidTests := true, laidLooks := .later }
def OffsetBackUptoCardSaid : Prop := Claim7.holds Tryd.pinned (.plain (OpenSpec.upto offsetBackSpec)) offsetBackUptoCard
end Rows
end Go.Proofs.YtbbfjlnkhenbiaaDoor
