/-
  DERIVED. GIVEN WITH THE SEED: THE CARDS: each row of YtjbdhnmkeaogcaaDoorRows.lean that lists a variable, with what it lists TIED to the program's text (the seventh form; the later family's looks); each row that meets fmt, with fmt's text TOLD by the authors' own Lean function (tested against real Go, not proved from fmt's source: count such statements apart). THE CARD IS WHAT COUNTS. Prove the row's statement (the work); the ties are given (YtjbdhnmkeaogcaaDoorTie.lean); close each card by the builder's one call (the guide's Derived/Test/ToyasCard.lean, 'card_holds'). Laid BY PROGRAM, IN A SANDBOX (cutbox-door.mjs). By AI agents, Wed Nov 11 2026. No macro, syntax, notation, axiom, sorry.
-/
import Derived.Test.YtjbdhnmkeaogcaaDoorRows
import GoSem.ClaimSeven
namespace Go.Proofs.YtjbdhnmkeaogcaaDoor
namespace Rows

/-- THE TIED CARD OF 'lockboxlaw05.BlockNews'. -/
def blockNewsCard : Claim7 := { stood := { row := blockNewsRow, standIns := [], harness := (true, "8650a698aaa6e7940681561f98863e190d5ec889b7f6ab40edacde75e00aa3ea"), looks := true }, kinds := [], alts := [], laidByText := true, laidKinds := [.handle], laidTests := true, laidLooks := .later }
def BlockNewsCardSaid : Prop := Claim7.holds Tryd.pinned (.plain (OpenSpec.ofChange blockNewsSpec)) blockNewsCard

/-- THE TIED CARD OF 'lockboxlaw05.BlockAsks'. -/
def blockAsksCard : Claim7 := { stood := { row := blockAsksRow, standIns := [], harness := (true, "8650a698aaa6e7940681561f98863e190d5ec889b7f6ab40edacde75e00aa3ea"), looks := true }, kinds := [], alts := [], laidByText := true, laidKinds := [.handle], laidTests := true, laidLooks := .later }
def BlockAsksCardSaid : Prop := Claim7.holds Tryd.pinned (.plain (OpenSpec.ofChange blockAsksSpec)) blockAsksCard

/-- THE TIED CARD OF 'lockboxlaw05.BlockBack'. -/
def blockBackCard : Claim7 := { stood := { row := blockBackRow, standIns := [], harness := (true, "8650a698aaa6e7940681561f98863e190d5ec889b7f6ab40edacde75e00aa3ea"), looks := true }, kinds := [], alts := [], laidByText := true, laidKinds := [.handle], laidTests := true, laidLooks := .later }
def BlockBackCardSaid : Prop := Claim7.holds Tryd.pinned (.plain (OpenSpec.ofChange blockBackSpec)) blockBackCard

/-- THE TIED CARD OF 'lockboxlaw05.BlockOne'. -/
def blockOneCard : Claim7 := { stood := { row := blockOneRow, standIns := [], harness := (true, "8650a698aaa6e7940681561f98863e190d5ec889b7f6ab40edacde75e00aa3ea"), looks := true }, kinds := [], alts := [], laidByText := true, laidKinds := [.handle], laidTests := true, laidLooks := .later }
def BlockOneCardSaid : Prop := Claim7.holds Tryd.pinned (.plain (OpenSpec.ofChange blockOneSpec)) blockOneCard

/-- THE TIED CARD OF 'lockboxlaw05.BlockKeeps'. -/
def blockKeepsCard : Claim7 := { stood := { row := blockKeepsRow, standIns := [], harness := (true, "8650a698aaa6e7940681561f98863e190d5ec889b7f6ab40edacde75e00aa3ea"), looks := true }, kinds := [], alts := [], laidByText := true, laidKinds := [.handle], laidTests := true, laidLooks := .later }
def BlockKeepsCardSaid : Prop := Claim7.holds Tryd.pinned (.plain (OpenSpec.ofChange blockKeepsSpec)) blockKeepsCard

/-- THE TIED CARD OF 'lockboxlaw05.BlockRows'. -/
def blockRowsCard : Claim7 := { stood := { row := blockRowsRow, standIns := [], harness := (true, "8650a698aaa6e7940681561f98863e190d5ec889b7f6ab40edacde75e00aa3ea"), looks := true }, kinds := [], alts := [], laidByText := true, laidKinds := [.handle], laidTests := true, laidLooks := .later }
def BlockRowsCardSaid : Prop := Claim7.holds Tryd.pinned (.plain (OpenSpec.ofChange blockRowsSpec)) blockRowsCard

/-- THE TIED CARD OF 'lockboxlaw06.ModeXors'. -/
def modeXorsCard : Claim7 := { stood := { row := modeXorsRow, standIns := [], harness := (true, "8650a698aaa6e7940681561f98863e190d5ec889b7f6ab40edacde75e00aa3ea"), looks := true }, kinds := [], alts := [], laidByText := true, laidKinds := [.handle], laidTests := true, laidLooks := .later }
def ModeXorsCardSaid : Prop := Claim7.holds Tryd.pinned (.plain (OpenSpec.ofChange modeXorsSpec)) modeXorsCard

/-- THE TIED CARD OF 'lockboxlaw06.ModeBack'. -/
def modeBackCard : Claim7 := { stood := { row := modeBackRow, standIns := [], harness := (true, "8650a698aaa6e7940681561f98863e190d5ec889b7f6ab40edacde75e00aa3ea"), looks := true }, kinds := [], alts := [], laidByText := true, laidKinds := [.handle], laidTests := true, laidLooks := .later }
def ModeBackCardSaid : Prop := Claim7.holds Tryd.pinned (.plain (OpenSpec.ofChange modeBackSpec)) modeBackCard

/-- THE TIED CARD OF 'lockboxlaw06.ModeParts'. -/
def modePartsCard : Claim7 := { stood := { row := modePartsRow, standIns := [], harness := (true, "8650a698aaa6e7940681561f98863e190d5ec889b7f6ab40edacde75e00aa3ea"), looks := true }, kinds := [], alts := [], laidByText := true, laidKinds := [.handle], laidTests := true, laidLooks := .later }
def ModePartsCardSaid : Prop := Claim7.holds Tryd.pinned (.plain (OpenSpec.ofChange modePartsSpec)) modePartsCard

/-- THE TIED CARD OF 'lockboxlaw06.ModeKeeps'. -/
def modeKeepsCard : Claim7 := { stood := { row := modeKeepsRow, standIns := [], harness := (true, "8650a698aaa6e7940681561f98863e190d5ec889b7f6ab40edacde75e00aa3ea"), looks := true }, kinds := [], alts := [], laidByText := true, laidKinds := [.handle], laidTests := true, laidLooks := .later }
def ModeKeepsCardSaid : Prop := Claim7.holds Tryd.pinned (.plain (OpenSpec.ofChange modeKeepsSpec)) modeKeepsCard

/-- THE TIED CARD OF 'lockboxlaw07.MacRetails'. -/
def macRetailsCard : Claim7 := { stood := { row := macRetailsRow, standIns := [], harness := (true, "8650a698aaa6e7940681561f98863e190d5ec889b7f6ab40edacde75e00aa3ea"), looks := true }, kinds := [], alts := [], laidByText := true, laidKinds := [.handle], laidTests := true, laidLooks := .later }
def MacRetailsCardSaid : Prop := Claim7.holds Tryd.pinned (.plain (OpenSpec.ofChange macRetailsSpec)) macRetailsCard

/-- THE TIED CARD OF 'lockboxlaw19.ArqcMakes'. -/
def arqcMakesCard : Claim7 := { stood := { row := arqcMakesRow, standIns := [], harness := (true, "8650a698aaa6e7940681561f98863e190d5ec889b7f6ab40edacde75e00aa3ea"), looks := true }, kinds := [], alts := [], laidByText := true, laidKinds := [.handle], laidTests := true, laidLooks := .later }
def ArqcMakesCardSaid : Prop := Claim7.holds Tryd.pinned (.plain (OpenSpec.ofChange arqcMakesSpec)) arqcMakesCard

/-- THE TIED CARD OF 'lockboxlaw19.ArqcAnswers'. -/
def arqcAnswersCard : Claim7 := { stood := { row := arqcAnswersRow, standIns := [], harness := (true, "8650a698aaa6e7940681561f98863e190d5ec889b7f6ab40edacde75e00aa3ea"), looks := true }, kinds := [], alts := [], laidByText := true, laidKinds := [.handle], laidTests := true, laidLooks := .later }
def ArqcAnswersCardSaid : Prop := Claim7.holds Tryd.pinned (.plain (OpenSpec.ofChange arqcAnswersSpec)) arqcAnswersCard

/-- THE TIED CARD OF 'lockboxlaw19.ArqcAsks'. -/
def arqcAsksCard : Claim7 := { stood := { row := arqcAsksRow, standIns := [], harness := (true, "8650a698aaa6e7940681561f98863e190d5ec889b7f6ab40edacde75e00aa3ea"), looks := true }, kinds := [], alts := [], laidByText := true, laidKinds := [.handle], laidTests := true, laidLooks := .later }
def ArqcAsksCardSaid : Prop := Claim7.holds Tryd.pinned (.plain (OpenSpec.ofChange arqcAsksSpec)) arqcAsksCard

/-- THE TIED CARD OF 'lockboxlaw24.GuardFive'. -/
def guardFiveCard : Claim7 := { stood := { row := guardFiveRow, standIns := [], harness := (true, "8650a698aaa6e7940681561f98863e190d5ec889b7f6ab40edacde75e00aa3ea"), looks := true }, kinds := [], alts := [], laidByText := true, laidKinds := [.handle], laidTests := true, laidLooks := .later }
def GuardFiveCardSaid : Prop := Claim7.holds Tryd.pinned (.plain (OpenSpec.ofChange guardFiveSpec)) guardFiveCard

/-- THE TIED CARD OF 'lockboxlaw24.GuardLeaves'. -/
def guardLeavesCard : Claim7 := { stood := { row := guardLeavesRow, standIns := [], harness := (true, "8650a698aaa6e7940681561f98863e190d5ec889b7f6ab40edacde75e00aa3ea"), looks := true }, kinds := [], alts := [], laidByText := true, laidKinds := [.handle], laidTests := true, laidLooks := .later }
def GuardLeavesCardSaid : Prop := Claim7.holds Tryd.pinned (.plain (OpenSpec.ofChange guardLeavesSpec)) guardLeavesCard

/-- THE TIED CARD OF 'lockboxlaw09.PartJoin'. -/
def partJoinCard : Claim7 := { stood := { row := partJoinRow, standIns := [], harness := (true, "8650a698aaa6e7940681561f98863e190d5ec889b7f6ab40edacde75e00aa3ea"), looks := true }, kinds := [], alts := [], laidByText := true, laidKinds := [.handle], laidTests := true, laidLooks := .later }
def PartJoinCardSaid : Prop := Claim7.holds Tryd.pinned (.plain (OpenSpec.ofChange partJoinSpec)) partJoinCard

/-- THE TIED CARD OF 'lockboxlaw09.PartKeeps'. -/
def partKeepsCard : Claim7 := { stood := { row := partKeepsRow, standIns := [], harness := (true, "8650a698aaa6e7940681561f98863e190d5ec889b7f6ab40edacde75e00aa3ea"), looks := true }, kinds := [], alts := [], laidByText := true, laidKinds := [.handle], laidTests := true, laidLooks := .later }
def PartKeepsCardSaid : Prop := Claim7.holds Tryd.pinned (.plain (OpenSpec.ofChange partKeepsSpec)) partKeepsCard

/-- THE TIED CARD OF 'lockboxlaw09.PartOdd'. -/
def partOddCard : Claim7 := { stood := { row := partOddRow, standIns := [], harness := (true, "8650a698aaa6e7940681561f98863e190d5ec889b7f6ab40edacde75e00aa3ea"), looks := true }, kinds := [], alts := [], laidByText := true, laidKinds := [.handle], laidTests := true, laidLooks := .later }
def PartOddCardSaid : Prop := Claim7.holds Tryd.pinned (.plain (OpenSpec.ofChange partOddSpec)) partOddCard

/-- THE TIED CARD OF 'lockboxlaw09.PartRights'. -/
def partRightsCard : Claim7 := { stood := { row := partRightsRow, standIns := [], harness := (true, "8650a698aaa6e7940681561f98863e190d5ec889b7f6ab40edacde75e00aa3ea"), looks := true }, kinds := [], alts := [], laidByText := true, laidKinds := [.handle], laidTests := true, laidLooks := .later }
def PartRightsCardSaid : Prop := Claim7.holds Tryd.pinned (.plain (OpenSpec.ofChange partRightsSpec)) partRightsCard

/-- THE TIED CARD OF 'lockboxlaw09.PartJoins'. -/
def partJoinsCard : Claim7 := { stood := { row := partJoinsRow, standIns := [], harness := (true, "8650a698aaa6e7940681561f98863e190d5ec889b7f6ab40edacde75e00aa3ea"), looks := true }, kinds := [], alts := [], laidByText := true, laidKinds := [.handle], laidTests := true, laidLooks := .later }
def PartJoinsCardSaid : Prop := Claim7.holds Tryd.pinned (.plain (OpenSpec.ofChange partJoinsSpec)) partJoinsCard

/-- THE SECOND FORM's CARD OF 'lockboxlaw05.BlockNews'. -/
def blockNewsUptoCard : Claim7 := { stood := { row := blockNewsUptoRow, standIns := [], harness := (true, "8650a698aaa6e7940681561f98863e190d5ec889b7f6ab40edacde75e00aa3ea"), looks := true }, kinds := [], alts := [], laidByText := true, laidKinds := [.handle], laidTests := true, laidLooks := .later }
def BlockNewsUptoCardSaid : Prop := Claim7.holds Tryd.pinned (.plain (OpenSpec.upto blockNewsSpec)) blockNewsUptoCard

/-- THE SECOND FORM's CARD OF 'lockboxlaw05.BlockAsks'. -/
def blockAsksUptoCard : Claim7 := { stood := { row := blockAsksUptoRow, standIns := [], harness := (true, "8650a698aaa6e7940681561f98863e190d5ec889b7f6ab40edacde75e00aa3ea"), looks := true }, kinds := [], alts := [], laidByText := true, laidKinds := [.handle], laidTests := true, laidLooks := .later }
def BlockAsksUptoCardSaid : Prop := Claim7.holds Tryd.pinned (.plain (OpenSpec.upto blockAsksSpec)) blockAsksUptoCard

/-- THE SECOND FORM's CARD OF 'lockboxlaw05.BlockBack'. -/
def blockBackUptoCard : Claim7 := { stood := { row := blockBackUptoRow, standIns := [], harness := (true, "8650a698aaa6e7940681561f98863e190d5ec889b7f6ab40edacde75e00aa3ea"), looks := true }, kinds := [], alts := [], laidByText := true, laidKinds := [.handle], laidTests := true, laidLooks := .later }
def BlockBackUptoCardSaid : Prop := Claim7.holds Tryd.pinned (.plain (OpenSpec.upto blockBackSpec)) blockBackUptoCard

/-- THE SECOND FORM's CARD OF 'lockboxlaw05.BlockOne'. -/
def blockOneUptoCard : Claim7 := { stood := { row := blockOneUptoRow, standIns := [], harness := (true, "8650a698aaa6e7940681561f98863e190d5ec889b7f6ab40edacde75e00aa3ea"), looks := true }, kinds := [], alts := [], laidByText := true, laidKinds := [.handle], laidTests := true, laidLooks := .later }
def BlockOneUptoCardSaid : Prop := Claim7.holds Tryd.pinned (.plain (OpenSpec.upto blockOneSpec)) blockOneUptoCard

/-- THE SECOND FORM's CARD OF 'lockboxlaw05.BlockKeeps'. -/
def blockKeepsUptoCard : Claim7 := { stood := { row := blockKeepsUptoRow, standIns := [], harness := (true, "8650a698aaa6e7940681561f98863e190d5ec889b7f6ab40edacde75e00aa3ea"), looks := true }, kinds := [], alts := [], laidByText := true, laidKinds := [.handle], laidTests := true, laidLooks := .later }
def BlockKeepsUptoCardSaid : Prop := Claim7.holds Tryd.pinned (.plain (OpenSpec.upto blockKeepsSpec)) blockKeepsUptoCard

/-- THE SECOND FORM's CARD OF 'lockboxlaw05.BlockRows'. -/
def blockRowsUptoCard : Claim7 := { stood := { row := blockRowsUptoRow, standIns := [], harness := (true, "8650a698aaa6e7940681561f98863e190d5ec889b7f6ab40edacde75e00aa3ea"), looks := true }, kinds := [], alts := [], laidByText := true, laidKinds := [.handle], laidTests := true, laidLooks := .later }
def BlockRowsUptoCardSaid : Prop := Claim7.holds Tryd.pinned (.plain (OpenSpec.upto blockRowsSpec)) blockRowsUptoCard

/-- THE SECOND FORM's CARD OF 'lockboxlaw06.ModeXors'. -/
def modeXorsUptoCard : Claim7 := { stood := { row := modeXorsUptoRow, standIns := [], harness := (true, "8650a698aaa6e7940681561f98863e190d5ec889b7f6ab40edacde75e00aa3ea"), looks := true }, kinds := [], alts := [], laidByText := true, laidKinds := [.handle], laidTests := true, laidLooks := .later }
def ModeXorsUptoCardSaid : Prop := Claim7.holds Tryd.pinned (.plain (OpenSpec.upto modeXorsSpec)) modeXorsUptoCard

/-- THE SECOND FORM's CARD OF 'lockboxlaw06.ModeBack'. -/
def modeBackUptoCard : Claim7 := { stood := { row := modeBackUptoRow, standIns := [], harness := (true, "8650a698aaa6e7940681561f98863e190d5ec889b7f6ab40edacde75e00aa3ea"), looks := true }, kinds := [], alts := [], laidByText := true, laidKinds := [.handle], laidTests := true, laidLooks := .later }
def ModeBackUptoCardSaid : Prop := Claim7.holds Tryd.pinned (.plain (OpenSpec.upto modeBackSpec)) modeBackUptoCard

/-- THE SECOND FORM's CARD OF 'lockboxlaw06.ModeParts'. -/
def modePartsUptoCard : Claim7 := { stood := { row := modePartsUptoRow, standIns := [], harness := (true, "8650a698aaa6e7940681561f98863e190d5ec889b7f6ab40edacde75e00aa3ea"), looks := true }, kinds := [], alts := [], laidByText := true, laidKinds := [.handle], laidTests := true, laidLooks := .later }
def ModePartsUptoCardSaid : Prop := Claim7.holds Tryd.pinned (.plain (OpenSpec.upto modePartsSpec)) modePartsUptoCard

/-- THE SECOND FORM's CARD OF 'lockboxlaw06.ModeKeeps'. -/
def modeKeepsUptoCard : Claim7 := { stood := { row := modeKeepsUptoRow, standIns := [], harness := (true, "8650a698aaa6e7940681561f98863e190d5ec889b7f6ab40edacde75e00aa3ea"), looks := true }, kinds := [], alts := [], laidByText := true, laidKinds := [.handle], laidTests := true, laidLooks := .later }
def ModeKeepsUptoCardSaid : Prop := Claim7.holds Tryd.pinned (.plain (OpenSpec.upto modeKeepsSpec)) modeKeepsUptoCard

/-- THE SECOND FORM's CARD OF 'lockboxlaw07.MacRetails'. -/
def macRetailsUptoCard : Claim7 := { stood := { row := macRetailsUptoRow, standIns := [], harness := (true, "8650a698aaa6e7940681561f98863e190d5ec889b7f6ab40edacde75e00aa3ea"), looks := true }, kinds := [], alts := [], laidByText := true, laidKinds := [.handle], laidTests := true, laidLooks := .later }
def MacRetailsUptoCardSaid : Prop := Claim7.holds Tryd.pinned (.plain (OpenSpec.upto macRetailsSpec)) macRetailsUptoCard

/-- THE SECOND FORM's CARD OF 'lockboxlaw19.ArqcMakes'. -/
def arqcMakesUptoCard : Claim7 := { stood := { row := arqcMakesUptoRow, standIns := [], harness := (true, "8650a698aaa6e7940681561f98863e190d5ec889b7f6ab40edacde75e00aa3ea"), looks := true }, kinds := [], alts := [], laidByText := true, laidKinds := [.handle], laidTests := true, laidLooks := .later }
def ArqcMakesUptoCardSaid : Prop := Claim7.holds Tryd.pinned (.plain (OpenSpec.upto arqcMakesSpec)) arqcMakesUptoCard

/-- THE SECOND FORM's CARD OF 'lockboxlaw19.ArqcAnswers'. -/
def arqcAnswersUptoCard : Claim7 := { stood := { row := arqcAnswersUptoRow, standIns := [], harness := (true, "8650a698aaa6e7940681561f98863e190d5ec889b7f6ab40edacde75e00aa3ea"), looks := true }, kinds := [], alts := [], laidByText := true, laidKinds := [.handle], laidTests := true, laidLooks := .later }
def ArqcAnswersUptoCardSaid : Prop := Claim7.holds Tryd.pinned (.plain (OpenSpec.upto arqcAnswersSpec)) arqcAnswersUptoCard

/-- THE SECOND FORM's CARD OF 'lockboxlaw19.ArqcAsks'. -/
def arqcAsksUptoCard : Claim7 := { stood := { row := arqcAsksUptoRow, standIns := [], harness := (true, "8650a698aaa6e7940681561f98863e190d5ec889b7f6ab40edacde75e00aa3ea"), looks := true }, kinds := [], alts := [], laidByText := true, laidKinds := [.handle], laidTests := true, laidLooks := .later }
def ArqcAsksUptoCardSaid : Prop := Claim7.holds Tryd.pinned (.plain (OpenSpec.upto arqcAsksSpec)) arqcAsksUptoCard

/-- THE SECOND FORM's CARD OF 'lockboxlaw24.GuardFive'. -/
def guardFiveUptoCard : Claim7 := { stood := { row := guardFiveUptoRow, standIns := [], harness := (true, "8650a698aaa6e7940681561f98863e190d5ec889b7f6ab40edacde75e00aa3ea"), looks := true }, kinds := [], alts := [], laidByText := true, laidKinds := [.handle], laidTests := true, laidLooks := .later }
def GuardFiveUptoCardSaid : Prop := Claim7.holds Tryd.pinned (.plain (OpenSpec.upto guardFiveSpec)) guardFiveUptoCard

/-- THE SECOND FORM's CARD OF 'lockboxlaw24.GuardLeaves'. -/
def guardLeavesUptoCard : Claim7 := { stood := { row := guardLeavesUptoRow, standIns := [], harness := (true, "8650a698aaa6e7940681561f98863e190d5ec889b7f6ab40edacde75e00aa3ea"), looks := true }, kinds := [], alts := [], laidByText := true, laidKinds := [.handle], laidTests := true, laidLooks := .later }
def GuardLeavesUptoCardSaid : Prop := Claim7.holds Tryd.pinned (.plain (OpenSpec.upto guardLeavesSpec)) guardLeavesUptoCard

/-- THE SECOND FORM's CARD OF 'lockboxlaw09.PartJoin'. -/
def partJoinUptoCard : Claim7 := { stood := { row := partJoinUptoRow, standIns := [], harness := (true, "8650a698aaa6e7940681561f98863e190d5ec889b7f6ab40edacde75e00aa3ea"), looks := true }, kinds := [], alts := [], laidByText := true, laidKinds := [.handle], laidTests := true, laidLooks := .later }
def PartJoinUptoCardSaid : Prop := Claim7.holds Tryd.pinned (.plain (OpenSpec.upto partJoinSpec)) partJoinUptoCard

/-- THE SECOND FORM's CARD OF 'lockboxlaw09.PartKeeps'. -/
def partKeepsUptoCard : Claim7 := { stood := { row := partKeepsUptoRow, standIns := [], harness := (true, "8650a698aaa6e7940681561f98863e190d5ec889b7f6ab40edacde75e00aa3ea"), looks := true }, kinds := [], alts := [], laidByText := true, laidKinds := [.handle], laidTests := true, laidLooks := .later }
def PartKeepsUptoCardSaid : Prop := Claim7.holds Tryd.pinned (.plain (OpenSpec.upto partKeepsSpec)) partKeepsUptoCard

/-- THE SECOND FORM's CARD OF 'lockboxlaw09.PartOdd'. -/
def partOddUptoCard : Claim7 := { stood := { row := partOddUptoRow, standIns := [], harness := (true, "8650a698aaa6e7940681561f98863e190d5ec889b7f6ab40edacde75e00aa3ea"), looks := true }, kinds := [], alts := [], laidByText := true, laidKinds := [.handle], laidTests := true, laidLooks := .later }
def PartOddUptoCardSaid : Prop := Claim7.holds Tryd.pinned (.plain (OpenSpec.upto partOddSpec)) partOddUptoCard

/-- THE SECOND FORM's CARD OF 'lockboxlaw09.PartRights'. -/
def partRightsUptoCard : Claim7 := { stood := { row := partRightsUptoRow, standIns := [], harness := (true, "8650a698aaa6e7940681561f98863e190d5ec889b7f6ab40edacde75e00aa3ea"), looks := true }, kinds := [], alts := [], laidByText := true, laidKinds := [.handle], laidTests := true, laidLooks := .later }
def PartRightsUptoCardSaid : Prop := Claim7.holds Tryd.pinned (.plain (OpenSpec.upto partRightsSpec)) partRightsUptoCard

/-- THE SECOND FORM's CARD OF 'lockboxlaw09.PartJoins'. -/
def partJoinsUptoCard : Claim7 := { stood := { row := partJoinsUptoRow, standIns := [], harness := (true, "8650a698aaa6e7940681561f98863e190d5ec889b7f6ab40edacde75e00aa3ea"), looks := true }, kinds := [], alts := [], laidByText := true, laidKinds := [.handle], laidTests := true, laidLooks := .later }
def PartJoinsUptoCardSaid : Prop := Claim7.holds Tryd.pinned (.plain (OpenSpec.upto partJoinsSpec)) partJoinsUptoCard
end Rows
end Go.Proofs.YtjbdhnmkeaogcaaDoor
