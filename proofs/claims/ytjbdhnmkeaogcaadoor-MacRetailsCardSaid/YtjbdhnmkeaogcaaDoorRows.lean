/-
  NARROWER THAN 'FOR EVERY INPUT', by the rows' own cells (each row's printed sentence says how): BlockNews: laid · BlockAsks: laid · BlockBack: laid · BlockOne: laid · BlockKeeps: laid · BlockRows: laid · ModeXors: laid · ModeBack: laid · ModeParts: laid · ModeKeeps: laid · MacRetails: laid · ArqcMakes: laid · ArqcAnswers: laid · ArqcAsks: laid · GuardFive: laid · GuardLeaves: laid · PartJoin: laid · PartKeeps: laid · PartOdd: laid · PartRights: laid · PartJoins: laid.
  DERIVED. THE GIVEN ROWS OF THIS SEAT. 21 by the template 'for every input the law returns true; each argument reads behind the call as it read before'; 0 by the template 'total and deterministic' (their statements: YtjbdhnmkeaogcaaDoorTotals.lean).
  GIVEN WITH THE SEED: the statements are not yours to turn. If you find one false, say at which input.
  Laid BY PROGRAM, IN A SANDBOX (cutbox-rows.mjs): the forced cells as the released guide's own fill.sh prints them over the translation 3216e5b02a2baf39… (all of the seat's roots in one cut). By AI agents, Wed Nov 11 2026. No macro, syntax, notation, axiom, sorry.
-/
import Derived.Test.YtjbdhnmkeaogcaaDoorChecked
import GoSem.Claim
import GoSem.ClaimJoined
import GoSem.ClaimMapViews
import Derived.JoinedTies
import Derived.KernelRfl
namespace Go.Proofs.YtjbdhnmkeaogcaaDoor
/- THE CELL 'sum', in the pinned program and in every row, IS THE sha256 OF THE DUMP (.gsa) THAT YtjbdhnmkeaogcaaDoorProg.lean LOADS. Nothing in Lean hashes anything: it is a label: what it is worth is what the hold of that sum in a sandbox is worth. -/
noncomputable def Tryd.pinned : Pinned := { name := "ytjbdhnmkeaogcaadoor", sum := "3216e5b02a2baf39755fcedc16feee3449299543e55e703b240d8aaa6c6936af", checked := Tryd.checked }
namespace Rows
def none {H : Type} : Left H := { results := [], args := [] }

/- WHAT THE LISTED PACKAGE-LEVEL VARIABLES READ AS WHEN THE CALL BEGINS. Each datum BY PROGRAM (the guide's laid-datum.mjs) off the statement by which the dump's own 'gosem.cut.vars' lays the variable. In a bare row this is a premise. The card (YtjbdhnmkeaogcaaDoorCards.lean) ties it to the program's text. -/
def laid_errors_errorType {H : Type} : DataW H := .iface "internal/reflectlite.rtype" (.agg [.ptr (.lit (.string [101, 114, 114, 111, 114]))])

/-- 'lockboxlaw05.BlockNews': WHATEVER THE INPUT: true; the input reads as it did. -/
def blockNewsSpec : ChangeSpec := { name := "blockNews", fn := fun _ => fun
  | [d1, d2, d3] => { results := [.lit (.bool true)], args := [d1, d2, d3] }
  | _ => none }
def blockNewsRow : OpenClaim := { program := "ytjbdhnmkeaogcaadoor", sum := "3216e5b02a2baf39755fcedc16feee3449299543e55e703b240d8aaa6c6936af", func := "lockbox/lockboxlaw05.BlockNews", spec := "blockNews", inPlace := ["internal/reflectlite.ValueOf", "(internal/reflectlite.Value).Type", "(internal/reflectlite.Value).IsNil", "internal/reflectlite.TypeOf", "(internal/reflectlite.Value).Elem", "(internal/reflectlite.Value).Set"], unfollowed := true, recurses := true, named := ["errors.errorType"], apart := false, laid := [("errors.errorType", laid_errors_errorType)] }
def BlockNewsSaid : Prop := blockNewsRow.holds Tryd.pinned (OpenSpec.ofChange blockNewsSpec)

/-- ITS FALSE NEIGHBOUR: 'it returns false'. Refute it at one input. -/
def blockNewsWrong : ChangeSpec := { name := "blockNews", fn := fun _ => fun
  | [d1, d2, d3] => { results := [.lit (.bool false)], args := [d1, d2, d3] }
  | _ => none }
def BlockNewsWrongFalsely : Prop := blockNewsRow.holds Tryd.pinned (OpenSpec.ofChange blockNewsWrong)

/-- 'lockboxlaw05.BlockAsks': WHATEVER THE INPUT: true; the input reads as it did. -/
def blockAsksSpec : ChangeSpec := { name := "blockAsks", fn := fun _ => fun
  | [d1, d2, d3, d4] => { results := [.lit (.bool true)], args := [d1, d2, d3, d4] }
  | _ => none }
def blockAsksRow : OpenClaim := { program := "ytjbdhnmkeaogcaadoor", sum := "3216e5b02a2baf39755fcedc16feee3449299543e55e703b240d8aaa6c6936af", func := "lockbox/lockboxlaw05.BlockAsks", spec := "blockAsks", inPlace := ["internal/reflectlite.ValueOf", "(internal/reflectlite.Value).Type", "(internal/reflectlite.Value).IsNil", "internal/reflectlite.TypeOf", "(internal/reflectlite.Value).Elem", "(internal/reflectlite.Value).Set"], unfollowed := true, recurses := true, named := ["errors.errorType"], apart := false, laid := [("errors.errorType", laid_errors_errorType)] }
def BlockAsksSaid : Prop := blockAsksRow.holds Tryd.pinned (OpenSpec.ofChange blockAsksSpec)

/-- ITS FALSE NEIGHBOUR: 'it returns false'. Refute it at one input. -/
def blockAsksWrong : ChangeSpec := { name := "blockAsks", fn := fun _ => fun
  | [d1, d2, d3, d4] => { results := [.lit (.bool false)], args := [d1, d2, d3, d4] }
  | _ => none }
def BlockAsksWrongFalsely : Prop := blockAsksRow.holds Tryd.pinned (OpenSpec.ofChange blockAsksWrong)

/-- 'lockboxlaw05.BlockBack': WHATEVER THE INPUT: true; the input reads as it did. -/
def blockBackSpec : ChangeSpec := { name := "blockBack", fn := fun _ => fun
  | [d1, d2, d3, d4, d5] => { results := [.lit (.bool true)], args := [d1, d2, d3, d4, d5] }
  | _ => none }
def blockBackRow : OpenClaim := { program := "ytjbdhnmkeaogcaadoor", sum := "3216e5b02a2baf39755fcedc16feee3449299543e55e703b240d8aaa6c6936af", func := "lockbox/lockboxlaw05.BlockBack", spec := "blockBack", inPlace := ["internal/reflectlite.ValueOf", "(internal/reflectlite.Value).Type", "(internal/reflectlite.Value).IsNil", "internal/reflectlite.TypeOf", "(internal/reflectlite.Value).Elem", "(internal/reflectlite.Value).Set"], unfollowed := true, recurses := true, named := ["errors.errorType"], apart := false, laid := [("errors.errorType", laid_errors_errorType)] }
def BlockBackSaid : Prop := blockBackRow.holds Tryd.pinned (OpenSpec.ofChange blockBackSpec)

/-- ITS FALSE NEIGHBOUR: 'it returns false'. Refute it at one input. -/
def blockBackWrong : ChangeSpec := { name := "blockBack", fn := fun _ => fun
  | [d1, d2, d3, d4, d5] => { results := [.lit (.bool false)], args := [d1, d2, d3, d4, d5] }
  | _ => none }
def BlockBackWrongFalsely : Prop := blockBackRow.holds Tryd.pinned (OpenSpec.ofChange blockBackWrong)

/-- 'lockboxlaw05.BlockOne': WHATEVER THE INPUT: true; the input reads as it did. -/
def blockOneSpec : ChangeSpec := { name := "blockOne", fn := fun _ => fun
  | [d1, d2, d3, d4, d5, d6] => { results := [.lit (.bool true)], args := [d1, d2, d3, d4, d5, d6] }
  | _ => none }
def blockOneRow : OpenClaim := { program := "ytjbdhnmkeaogcaadoor", sum := "3216e5b02a2baf39755fcedc16feee3449299543e55e703b240d8aaa6c6936af", func := "lockbox/lockboxlaw05.BlockOne", spec := "blockOne", inPlace := ["internal/reflectlite.ValueOf", "(internal/reflectlite.Value).Type", "(internal/reflectlite.Value).IsNil", "internal/reflectlite.TypeOf", "(internal/reflectlite.Value).Elem", "(internal/reflectlite.Value).Set"], unfollowed := true, recurses := true, named := ["errors.errorType"], apart := false, laid := [("errors.errorType", laid_errors_errorType)] }
def BlockOneSaid : Prop := blockOneRow.holds Tryd.pinned (OpenSpec.ofChange blockOneSpec)

/-- ITS FALSE NEIGHBOUR: 'it returns false'. Refute it at one input. -/
def blockOneWrong : ChangeSpec := { name := "blockOne", fn := fun _ => fun
  | [d1, d2, d3, d4, d5, d6] => { results := [.lit (.bool false)], args := [d1, d2, d3, d4, d5, d6] }
  | _ => none }
def BlockOneWrongFalsely : Prop := blockOneRow.holds Tryd.pinned (OpenSpec.ofChange blockOneWrong)

/-- 'lockboxlaw05.BlockKeeps': WHATEVER THE INPUT: true; the input reads as it did. -/
def blockKeepsSpec : ChangeSpec := { name := "blockKeeps", fn := fun _ => fun
  | [d1, d2, d3, d4] => { results := [.lit (.bool true)], args := [d1, d2, d3, d4] }
  | _ => none }
def blockKeepsRow : OpenClaim := { program := "ytjbdhnmkeaogcaadoor", sum := "3216e5b02a2baf39755fcedc16feee3449299543e55e703b240d8aaa6c6936af", func := "lockbox/lockboxlaw05.BlockKeeps", spec := "blockKeeps", inPlace := ["internal/reflectlite.ValueOf", "(internal/reflectlite.Value).Type", "(internal/reflectlite.Value).IsNil", "internal/reflectlite.TypeOf", "(internal/reflectlite.Value).Elem", "(internal/reflectlite.Value).Set"], unfollowed := true, recurses := true, named := ["errors.errorType"], apart := false, laid := [("errors.errorType", laid_errors_errorType)] }
def BlockKeepsSaid : Prop := blockKeepsRow.holds Tryd.pinned (OpenSpec.ofChange blockKeepsSpec)

/-- ITS FALSE NEIGHBOUR: 'it returns false'. Refute it at one input. -/
def blockKeepsWrong : ChangeSpec := { name := "blockKeeps", fn := fun _ => fun
  | [d1, d2, d3, d4] => { results := [.lit (.bool false)], args := [d1, d2, d3, d4] }
  | _ => none }
def BlockKeepsWrongFalsely : Prop := blockKeepsRow.holds Tryd.pinned (OpenSpec.ofChange blockKeepsWrong)

/-- 'lockboxlaw05.BlockRows': WHATEVER THE INPUT: true; the input reads as it did. -/
def blockRowsSpec : ChangeSpec := { name := "blockRows", fn := fun _ => fun
  | [d1, d2, d3] => { results := [.lit (.bool true)], args := [d1, d2, d3] }
  | _ => none }
def blockRowsRow : OpenClaim := { program := "ytjbdhnmkeaogcaadoor", sum := "3216e5b02a2baf39755fcedc16feee3449299543e55e703b240d8aaa6c6936af", func := "lockbox/lockboxlaw05.BlockRows", spec := "blockRows", inPlace := ["internal/reflectlite.ValueOf", "(internal/reflectlite.Value).Type", "(internal/reflectlite.Value).IsNil", "internal/reflectlite.TypeOf", "(internal/reflectlite.Value).Elem", "(internal/reflectlite.Value).Set"], unfollowed := true, recurses := true, named := ["errors.errorType"], apart := false, laid := [("errors.errorType", laid_errors_errorType)] }
def BlockRowsSaid : Prop := blockRowsRow.holds Tryd.pinned (OpenSpec.ofChange blockRowsSpec)

/-- ITS FALSE NEIGHBOUR: 'it returns false'. Refute it at one input. -/
def blockRowsWrong : ChangeSpec := { name := "blockRows", fn := fun _ => fun
  | [d1, d2, d3] => { results := [.lit (.bool false)], args := [d1, d2, d3] }
  | _ => none }
def BlockRowsWrongFalsely : Prop := blockRowsRow.holds Tryd.pinned (OpenSpec.ofChange blockRowsWrong)

/-- 'lockboxlaw06.ModeXors': WHATEVER THE INPUT: true; the input reads as it did. -/
def modeXorsSpec : ChangeSpec := { name := "modeXors", fn := fun _ => fun
  | [d1, d2] => { results := [.lit (.bool true)], args := [d1, d2] }
  | _ => none }
def modeXorsRow : OpenClaim := { program := "ytjbdhnmkeaogcaadoor", sum := "3216e5b02a2baf39755fcedc16feee3449299543e55e703b240d8aaa6c6936af", func := "lockbox/lockboxlaw06.ModeXors", spec := "modeXors", inPlace := ["internal/reflectlite.ValueOf", "(internal/reflectlite.Value).Type", "(internal/reflectlite.Value).IsNil", "internal/reflectlite.TypeOf", "(internal/reflectlite.Value).Elem", "(internal/reflectlite.Value).Set"], unfollowed := true, recurses := true, named := ["errors.errorType"], apart := false, laid := [("errors.errorType", laid_errors_errorType)] }
def ModeXorsSaid : Prop := modeXorsRow.holds Tryd.pinned (OpenSpec.ofChange modeXorsSpec)

/-- ITS FALSE NEIGHBOUR: 'it returns false'. Refute it at one input. -/
def modeXorsWrong : ChangeSpec := { name := "modeXors", fn := fun _ => fun
  | [d1, d2] => { results := [.lit (.bool false)], args := [d1, d2] }
  | _ => none }
def ModeXorsWrongFalsely : Prop := modeXorsRow.holds Tryd.pinned (OpenSpec.ofChange modeXorsWrong)

/-- 'lockboxlaw06.ModeBack': WHATEVER THE INPUT: true; the input reads as it did. -/
def modeBackSpec : ChangeSpec := { name := "modeBack", fn := fun _ => fun
  | [d1, d2, d3, d4, d5] => { results := [.lit (.bool true)], args := [d1, d2, d3, d4, d5] }
  | _ => none }
def modeBackRow : OpenClaim := { program := "ytjbdhnmkeaogcaadoor", sum := "3216e5b02a2baf39755fcedc16feee3449299543e55e703b240d8aaa6c6936af", func := "lockbox/lockboxlaw06.ModeBack", spec := "modeBack", inPlace := ["internal/reflectlite.ValueOf", "(internal/reflectlite.Value).Type", "(internal/reflectlite.Value).IsNil", "internal/reflectlite.TypeOf", "(internal/reflectlite.Value).Elem", "(internal/reflectlite.Value).Set"], unfollowed := true, recurses := true, named := ["errors.errorType"], apart := false, laid := [("errors.errorType", laid_errors_errorType)] }
def ModeBackSaid : Prop := modeBackRow.holds Tryd.pinned (OpenSpec.ofChange modeBackSpec)

/-- ITS FALSE NEIGHBOUR: 'it returns false'. Refute it at one input. -/
def modeBackWrong : ChangeSpec := { name := "modeBack", fn := fun _ => fun
  | [d1, d2, d3, d4, d5] => { results := [.lit (.bool false)], args := [d1, d2, d3, d4, d5] }
  | _ => none }
def ModeBackWrongFalsely : Prop := modeBackRow.holds Tryd.pinned (OpenSpec.ofChange modeBackWrong)

/-- 'lockboxlaw06.ModeParts': WHATEVER THE INPUT: true; the input reads as it did. -/
def modePartsSpec : ChangeSpec := { name := "modeParts", fn := fun _ => fun
  | [d1, d2, d3, d4, d5] => { results := [.lit (.bool true)], args := [d1, d2, d3, d4, d5] }
  | _ => none }
def modePartsRow : OpenClaim := { program := "ytjbdhnmkeaogcaadoor", sum := "3216e5b02a2baf39755fcedc16feee3449299543e55e703b240d8aaa6c6936af", func := "lockbox/lockboxlaw06.ModeParts", spec := "modeParts", inPlace := ["internal/reflectlite.ValueOf", "(internal/reflectlite.Value).Type", "(internal/reflectlite.Value).IsNil", "internal/reflectlite.TypeOf", "(internal/reflectlite.Value).Elem", "(internal/reflectlite.Value).Set"], unfollowed := true, recurses := true, named := ["errors.errorType"], apart := false, laid := [("errors.errorType", laid_errors_errorType)] }
def ModePartsSaid : Prop := modePartsRow.holds Tryd.pinned (OpenSpec.ofChange modePartsSpec)

/-- ITS FALSE NEIGHBOUR: 'it returns false'. Refute it at one input. -/
def modePartsWrong : ChangeSpec := { name := "modeParts", fn := fun _ => fun
  | [d1, d2, d3, d4, d5] => { results := [.lit (.bool false)], args := [d1, d2, d3, d4, d5] }
  | _ => none }
def ModePartsWrongFalsely : Prop := modePartsRow.holds Tryd.pinned (OpenSpec.ofChange modePartsWrong)

/-- 'lockboxlaw06.ModeKeeps': WHATEVER THE INPUT: true; the input reads as it did. -/
def modeKeepsSpec : ChangeSpec := { name := "modeKeeps", fn := fun _ => fun
  | [d1, d2, d3] => { results := [.lit (.bool true)], args := [d1, d2, d3] }
  | _ => none }
def modeKeepsRow : OpenClaim := { program := "ytjbdhnmkeaogcaadoor", sum := "3216e5b02a2baf39755fcedc16feee3449299543e55e703b240d8aaa6c6936af", func := "lockbox/lockboxlaw06.ModeKeeps", spec := "modeKeeps", inPlace := ["internal/reflectlite.ValueOf", "(internal/reflectlite.Value).Type", "(internal/reflectlite.Value).IsNil", "internal/reflectlite.TypeOf", "(internal/reflectlite.Value).Elem", "(internal/reflectlite.Value).Set"], unfollowed := true, recurses := true, named := ["errors.errorType"], apart := false, laid := [("errors.errorType", laid_errors_errorType)] }
def ModeKeepsSaid : Prop := modeKeepsRow.holds Tryd.pinned (OpenSpec.ofChange modeKeepsSpec)

/-- ITS FALSE NEIGHBOUR: 'it returns false'. Refute it at one input. -/
def modeKeepsWrong : ChangeSpec := { name := "modeKeeps", fn := fun _ => fun
  | [d1, d2, d3] => { results := [.lit (.bool false)], args := [d1, d2, d3] }
  | _ => none }
def ModeKeepsWrongFalsely : Prop := modeKeepsRow.holds Tryd.pinned (OpenSpec.ofChange modeKeepsWrong)

/-- 'lockboxlaw07.MacRetails': WHATEVER THE INPUT: true; the input reads as it did. -/
def macRetailsSpec : ChangeSpec := { name := "macRetails", fn := fun _ => fun
  | [d1, d2, d3, d4] => { results := [.lit (.bool true)], args := [d1, d2, d3, d4] }
  | _ => none }
def macRetailsRow : OpenClaim := { program := "ytjbdhnmkeaogcaadoor", sum := "3216e5b02a2baf39755fcedc16feee3449299543e55e703b240d8aaa6c6936af", func := "lockbox/lockboxlaw07.MacRetails", spec := "macRetails", inPlace := ["internal/reflectlite.ValueOf", "(internal/reflectlite.Value).Type", "(internal/reflectlite.Value).IsNil", "internal/reflectlite.TypeOf", "(internal/reflectlite.Value).Elem", "(internal/reflectlite.Value).Set"], unfollowed := true, recurses := true, named := ["errors.errorType"], apart := false, laid := [("errors.errorType", laid_errors_errorType)] }
def MacRetailsSaid : Prop := macRetailsRow.holds Tryd.pinned (OpenSpec.ofChange macRetailsSpec)

/-- ITS FALSE NEIGHBOUR: 'it returns false'. Refute it at one input. -/
def macRetailsWrong : ChangeSpec := { name := "macRetails", fn := fun _ => fun
  | [d1, d2, d3, d4] => { results := [.lit (.bool false)], args := [d1, d2, d3, d4] }
  | _ => none }
def MacRetailsWrongFalsely : Prop := macRetailsRow.holds Tryd.pinned (OpenSpec.ofChange macRetailsWrong)

/-- 'lockboxlaw19.ArqcMakes': WHATEVER THE INPUT: true; the input reads as it did. -/
def arqcMakesSpec : ChangeSpec := { name := "arqcMakes", fn := fun _ => fun
  | [d1, d2, d3] => { results := [.lit (.bool true)], args := [d1, d2, d3] }
  | _ => none }
def arqcMakesRow : OpenClaim := { program := "ytjbdhnmkeaogcaadoor", sum := "3216e5b02a2baf39755fcedc16feee3449299543e55e703b240d8aaa6c6936af", func := "lockbox/lockboxlaw19.ArqcMakes", spec := "arqcMakes", inPlace := ["internal/reflectlite.ValueOf", "(internal/reflectlite.Value).Type", "(internal/reflectlite.Value).IsNil", "internal/reflectlite.TypeOf", "(internal/reflectlite.Value).Elem", "(internal/reflectlite.Value).Set"], unfollowed := true, recurses := true, named := ["errors.errorType"], apart := false, laid := [("errors.errorType", laid_errors_errorType)] }
def ArqcMakesSaid : Prop := arqcMakesRow.holds Tryd.pinned (OpenSpec.ofChange arqcMakesSpec)

/-- ITS FALSE NEIGHBOUR: 'it returns false'. Refute it at one input. -/
def arqcMakesWrong : ChangeSpec := { name := "arqcMakes", fn := fun _ => fun
  | [d1, d2, d3] => { results := [.lit (.bool false)], args := [d1, d2, d3] }
  | _ => none }
def ArqcMakesWrongFalsely : Prop := arqcMakesRow.holds Tryd.pinned (OpenSpec.ofChange arqcMakesWrong)

/-- 'lockboxlaw19.ArqcAnswers': WHATEVER THE INPUT: true; the input reads as it did. -/
def arqcAnswersSpec : ChangeSpec := { name := "arqcAnswers", fn := fun _ => fun
  | [d1, d2, d3, d4, d5] => { results := [.lit (.bool true)], args := [d1, d2, d3, d4, d5] }
  | _ => none }
def arqcAnswersRow : OpenClaim := { program := "ytjbdhnmkeaogcaadoor", sum := "3216e5b02a2baf39755fcedc16feee3449299543e55e703b240d8aaa6c6936af", func := "lockbox/lockboxlaw19.ArqcAnswers", spec := "arqcAnswers", inPlace := ["internal/reflectlite.ValueOf", "(internal/reflectlite.Value).Type", "(internal/reflectlite.Value).IsNil", "internal/reflectlite.TypeOf", "(internal/reflectlite.Value).Elem", "(internal/reflectlite.Value).Set"], unfollowed := true, recurses := true, named := ["errors.errorType"], apart := false, laid := [("errors.errorType", laid_errors_errorType)] }
def ArqcAnswersSaid : Prop := arqcAnswersRow.holds Tryd.pinned (OpenSpec.ofChange arqcAnswersSpec)

/-- ITS FALSE NEIGHBOUR: 'it returns false'. Refute it at one input. -/
def arqcAnswersWrong : ChangeSpec := { name := "arqcAnswers", fn := fun _ => fun
  | [d1, d2, d3, d4, d5] => { results := [.lit (.bool false)], args := [d1, d2, d3, d4, d5] }
  | _ => none }
def ArqcAnswersWrongFalsely : Prop := arqcAnswersRow.holds Tryd.pinned (OpenSpec.ofChange arqcAnswersWrong)

/-- 'lockboxlaw19.ArqcAsks': WHATEVER THE INPUT: true; the input reads as it did. -/
def arqcAsksSpec : ChangeSpec := { name := "arqcAsks", fn := fun _ => fun
  | [d1, d2, d3, d4] => { results := [.lit (.bool true)], args := [d1, d2, d3, d4] }
  | _ => none }
def arqcAsksRow : OpenClaim := { program := "ytjbdhnmkeaogcaadoor", sum := "3216e5b02a2baf39755fcedc16feee3449299543e55e703b240d8aaa6c6936af", func := "lockbox/lockboxlaw19.ArqcAsks", spec := "arqcAsks", inPlace := ["internal/reflectlite.ValueOf", "(internal/reflectlite.Value).Type", "(internal/reflectlite.Value).IsNil", "internal/reflectlite.TypeOf", "(internal/reflectlite.Value).Elem", "(internal/reflectlite.Value).Set"], unfollowed := true, recurses := true, named := ["errors.errorType"], apart := false, laid := [("errors.errorType", laid_errors_errorType)] }
def ArqcAsksSaid : Prop := arqcAsksRow.holds Tryd.pinned (OpenSpec.ofChange arqcAsksSpec)

/-- ITS FALSE NEIGHBOUR: 'it returns false'. Refute it at one input. -/
def arqcAsksWrong : ChangeSpec := { name := "arqcAsks", fn := fun _ => fun
  | [d1, d2, d3, d4] => { results := [.lit (.bool false)], args := [d1, d2, d3, d4] }
  | _ => none }
def ArqcAsksWrongFalsely : Prop := arqcAsksRow.holds Tryd.pinned (OpenSpec.ofChange arqcAsksWrong)

/-- 'lockboxlaw24.GuardFive': WHATEVER THE INPUT: true; the input reads as it did. -/
def guardFiveSpec : ChangeSpec := { name := "guardFive", fn := fun _ => fun
  | [d1, d2, d3, d4] => { results := [.lit (.bool true)], args := [d1, d2, d3, d4] }
  | _ => none }
def guardFiveRow : OpenClaim := { program := "ytjbdhnmkeaogcaadoor", sum := "3216e5b02a2baf39755fcedc16feee3449299543e55e703b240d8aaa6c6936af", func := "lockbox/lockboxlaw24.GuardFive", spec := "guardFive", inPlace := ["internal/reflectlite.ValueOf", "(internal/reflectlite.Value).Type", "(internal/reflectlite.Value).IsNil", "internal/reflectlite.TypeOf", "(internal/reflectlite.Value).Elem", "(internal/reflectlite.Value).Set"], unfollowed := true, recurses := true, named := ["errors.errorType"], apart := false, laid := [("errors.errorType", laid_errors_errorType)] }
def GuardFiveSaid : Prop := guardFiveRow.holds Tryd.pinned (OpenSpec.ofChange guardFiveSpec)

/-- ITS FALSE NEIGHBOUR: 'it returns false'. Refute it at one input. -/
def guardFiveWrong : ChangeSpec := { name := "guardFive", fn := fun _ => fun
  | [d1, d2, d3, d4] => { results := [.lit (.bool false)], args := [d1, d2, d3, d4] }
  | _ => none }
def GuardFiveWrongFalsely : Prop := guardFiveRow.holds Tryd.pinned (OpenSpec.ofChange guardFiveWrong)

/-- 'lockboxlaw24.GuardLeaves': WHATEVER THE INPUT: true; the input reads as it did. -/
def guardLeavesSpec : ChangeSpec := { name := "guardLeaves", fn := fun _ => fun
  | [d1, d2, d3] => { results := [.lit (.bool true)], args := [d1, d2, d3] }
  | _ => none }
def guardLeavesRow : OpenClaim := { program := "ytjbdhnmkeaogcaadoor", sum := "3216e5b02a2baf39755fcedc16feee3449299543e55e703b240d8aaa6c6936af", func := "lockbox/lockboxlaw24.GuardLeaves", spec := "guardLeaves", inPlace := ["internal/reflectlite.ValueOf", "(internal/reflectlite.Value).Type", "(internal/reflectlite.Value).IsNil", "internal/reflectlite.TypeOf", "(internal/reflectlite.Value).Elem", "(internal/reflectlite.Value).Set"], unfollowed := true, recurses := true, named := ["errors.errorType"], apart := false, laid := [("errors.errorType", laid_errors_errorType)] }
def GuardLeavesSaid : Prop := guardLeavesRow.holds Tryd.pinned (OpenSpec.ofChange guardLeavesSpec)

/-- ITS FALSE NEIGHBOUR: 'it returns false'. Refute it at one input. -/
def guardLeavesWrong : ChangeSpec := { name := "guardLeaves", fn := fun _ => fun
  | [d1, d2, d3] => { results := [.lit (.bool false)], args := [d1, d2, d3] }
  | _ => none }
def GuardLeavesWrongFalsely : Prop := guardLeavesRow.holds Tryd.pinned (OpenSpec.ofChange guardLeavesWrong)

/-- 'lockboxlaw09.PartJoin': WHATEVER THE INPUT: true; the input reads as it did. -/
def partJoinSpec : ChangeSpec := { name := "partJoin", fn := fun _ => fun
  | [d1, d2, d3, d4] => { results := [.lit (.bool true)], args := [d1, d2, d3, d4] }
  | _ => none }
def partJoinRow : OpenClaim := { program := "ytjbdhnmkeaogcaadoor", sum := "3216e5b02a2baf39755fcedc16feee3449299543e55e703b240d8aaa6c6936af", func := "lockbox/lockboxlaw09.PartJoin", spec := "partJoin", inPlace := ["internal/reflectlite.ValueOf", "(internal/reflectlite.Value).Type", "(internal/reflectlite.Value).IsNil", "internal/reflectlite.TypeOf", "(internal/reflectlite.Value).Elem", "(internal/reflectlite.Value).Set"], unfollowed := true, recurses := true, named := ["errors.errorType"], apart := false, laid := [("errors.errorType", laid_errors_errorType)] }
def PartJoinSaid : Prop := partJoinRow.holds Tryd.pinned (OpenSpec.ofChange partJoinSpec)

/-- ITS FALSE NEIGHBOUR: 'it returns false'. Refute it at one input. -/
def partJoinWrong : ChangeSpec := { name := "partJoin", fn := fun _ => fun
  | [d1, d2, d3, d4] => { results := [.lit (.bool false)], args := [d1, d2, d3, d4] }
  | _ => none }
def PartJoinWrongFalsely : Prop := partJoinRow.holds Tryd.pinned (OpenSpec.ofChange partJoinWrong)

/-- 'lockboxlaw09.PartKeeps': WHATEVER THE INPUT: true; the input reads as it did. -/
def partKeepsSpec : ChangeSpec := { name := "partKeeps", fn := fun _ => fun
  | [d1, d2] => { results := [.lit (.bool true)], args := [d1, d2] }
  | _ => none }
def partKeepsRow : OpenClaim := { program := "ytjbdhnmkeaogcaadoor", sum := "3216e5b02a2baf39755fcedc16feee3449299543e55e703b240d8aaa6c6936af", func := "lockbox/lockboxlaw09.PartKeeps", spec := "partKeeps", inPlace := ["internal/reflectlite.ValueOf", "(internal/reflectlite.Value).Type", "(internal/reflectlite.Value).IsNil", "internal/reflectlite.TypeOf", "(internal/reflectlite.Value).Elem", "(internal/reflectlite.Value).Set"], unfollowed := true, recurses := true, named := ["errors.errorType"], apart := false, laid := [("errors.errorType", laid_errors_errorType)] }
def PartKeepsSaid : Prop := partKeepsRow.holds Tryd.pinned (OpenSpec.ofChange partKeepsSpec)

/-- ITS FALSE NEIGHBOUR: 'it returns false'. Refute it at one input. -/
def partKeepsWrong : ChangeSpec := { name := "partKeeps", fn := fun _ => fun
  | [d1, d2] => { results := [.lit (.bool false)], args := [d1, d2] }
  | _ => none }
def PartKeepsWrongFalsely : Prop := partKeepsRow.holds Tryd.pinned (OpenSpec.ofChange partKeepsWrong)

/-- 'lockboxlaw09.PartOdd': WHATEVER THE INPUT: true; the input reads as it did. -/
def partOddSpec : ChangeSpec := { name := "partOdd", fn := fun _ => fun
  | [d] => { results := [.lit (.bool true)], args := [d] }
  | _ => none }
def partOddRow : OpenClaim := { program := "ytjbdhnmkeaogcaadoor", sum := "3216e5b02a2baf39755fcedc16feee3449299543e55e703b240d8aaa6c6936af", func := "lockbox/lockboxlaw09.PartOdd", spec := "partOdd", inPlace := ["internal/reflectlite.ValueOf", "(internal/reflectlite.Value).Type", "(internal/reflectlite.Value).IsNil", "internal/reflectlite.TypeOf", "(internal/reflectlite.Value).Elem", "(internal/reflectlite.Value).Set"], unfollowed := true, recurses := true, named := ["errors.errorType"], apart := false, laid := [("errors.errorType", laid_errors_errorType)] }
def PartOddSaid : Prop := partOddRow.holds Tryd.pinned (OpenSpec.ofChange partOddSpec)

/-- ITS FALSE NEIGHBOUR: 'it returns false'. Refute it at one input. -/
def partOddWrong : ChangeSpec := { name := "partOdd", fn := fun _ => fun
  | [d] => { results := [.lit (.bool false)], args := [d] }
  | _ => none }
def PartOddWrongFalsely : Prop := partOddRow.holds Tryd.pinned (OpenSpec.ofChange partOddWrong)

/-- 'lockboxlaw09.PartRights': WHATEVER THE INPUT: true; the input reads as it did. -/
def partRightsSpec : ChangeSpec := { name := "partRights", fn := fun _ => fun
  | [d1, d2] => { results := [.lit (.bool true)], args := [d1, d2] }
  | _ => none }
def partRightsRow : OpenClaim := { program := "ytjbdhnmkeaogcaadoor", sum := "3216e5b02a2baf39755fcedc16feee3449299543e55e703b240d8aaa6c6936af", func := "lockbox/lockboxlaw09.PartRights", spec := "partRights", inPlace := ["internal/reflectlite.ValueOf", "(internal/reflectlite.Value).Type", "(internal/reflectlite.Value).IsNil", "internal/reflectlite.TypeOf", "(internal/reflectlite.Value).Elem", "(internal/reflectlite.Value).Set"], unfollowed := true, recurses := true, named := ["errors.errorType"], apart := false, laid := [("errors.errorType", laid_errors_errorType)] }
def PartRightsSaid : Prop := partRightsRow.holds Tryd.pinned (OpenSpec.ofChange partRightsSpec)

/-- ITS FALSE NEIGHBOUR: 'it returns false'. Refute it at one input. -/
def partRightsWrong : ChangeSpec := { name := "partRights", fn := fun _ => fun
  | [d1, d2] => { results := [.lit (.bool false)], args := [d1, d2] }
  | _ => none }
def PartRightsWrongFalsely : Prop := partRightsRow.holds Tryd.pinned (OpenSpec.ofChange partRightsWrong)

/-- 'lockboxlaw09.PartJoins': WHATEVER THE INPUT: true; the input reads as it did. -/
def partJoinsSpec : ChangeSpec := { name := "partJoins", fn := fun _ => fun
  | [d1, d2] => { results := [.lit (.bool true)], args := [d1, d2] }
  | _ => none }
def partJoinsRow : OpenClaim := { program := "ytjbdhnmkeaogcaadoor", sum := "3216e5b02a2baf39755fcedc16feee3449299543e55e703b240d8aaa6c6936af", func := "lockbox/lockboxlaw09.PartJoins", spec := "partJoins", inPlace := ["internal/reflectlite.ValueOf", "(internal/reflectlite.Value).Type", "(internal/reflectlite.Value).IsNil", "internal/reflectlite.TypeOf", "(internal/reflectlite.Value).Elem", "(internal/reflectlite.Value).Set"], unfollowed := true, recurses := true, named := ["errors.errorType"], apart := false, laid := [("errors.errorType", laid_errors_errorType)] }
def PartJoinsSaid : Prop := partJoinsRow.holds Tryd.pinned (OpenSpec.ofChange partJoinsSpec)

/-- ITS FALSE NEIGHBOUR: 'it returns false'. Refute it at one input. -/
def partJoinsWrong : ChangeSpec := { name := "partJoins", fn := fun _ => fun
  | [d1, d2] => { results := [.lit (.bool false)], args := [d1, d2] }
  | _ => none }
def PartJoinsWrongFalsely : Prop := partJoinsRow.holds Tryd.pinned (OpenSpec.ofChange partJoinsWrong)

/- THE SECOND FORM. 'bulk': how many values and letters a reading holds, each counted each time it is reached (what is shared counts as often as it is met; a slice's spare places count too). A statement '..UptoSaid' is the law's where the arguments, and the package variables that the reading takes, are together of bulk at most 1048576: NARROWER than '..Said'. Prove '..Said' where nothing that the law and all that it calls make is longer than what came in: it says more and counts as full. Else prove '..UptoSaid'. A law counts once. -/
mutual
def uptoBulk {H : Type} : DataW H → Nat
  | .lit (.string bytes) => bytes.length + 1
  | .lit _ => 1
  | .nil => 1
  | .ptr d => uptoBulk d + 1
  | .slice elems spare => uptoBulkAll elems + uptoBulkAll spare + 1
  | .agg parts => uptoBulkAll parts + 1
  | .iface _ d => uptoBulk d + 1
  | .map entries => uptoBulkEntries entries + 1
  | .held _ => 1
def uptoBulkAll {H : Type} : List (DataW H) → Nat
  | [] => 0
  | d :: r => uptoBulk d + uptoBulkAll r
def uptoBulkEntries {H : Type} : List (Lit × DataW H) → Nat
  | [] => 0
  | x :: r => uptoBulkEntry x + uptoBulkEntries r
def uptoBulkEntry {H : Type} : Lit × DataW H → Nat
  | (.string bytes, d) => bytes.length + uptoBulk d + 1
  | (_, d) => uptoBulk d + 1
 end
def uptoSmall : (H : Type) → List (DataW H) → Bool := fun _ ds => decide (uptoBulkAll ds ≤ 1048576)
def OpenSpec.upto (s : _root_.Go.ChangeSpec) : _root_.Go.OpenSpec := { _root_.Go.OpenSpec.ofChange s with cond := some uptoSmall }

/-- 'lockboxlaw05.BlockNews', WHERE WHAT IT READS IS OF BULK AT MOST 1048576: true; the input reads as it did. -/
def blockNewsUptoRow : OpenClaim := { program := "ytjbdhnmkeaogcaadoor", sum := "3216e5b02a2baf39755fcedc16feee3449299543e55e703b240d8aaa6c6936af", func := "lockbox/lockboxlaw05.BlockNews", spec := "blockNews", inPlace := ["internal/reflectlite.ValueOf", "(internal/reflectlite.Value).Type", "(internal/reflectlite.Value).IsNil", "internal/reflectlite.TypeOf", "(internal/reflectlite.Value).Elem", "(internal/reflectlite.Value).Set"], unfollowed := true, recurses := true, named := ["errors.errorType"], apart := false, laid := [("errors.errorType", laid_errors_errorType)], narrowed := true }
def BlockNewsUptoSaid : Prop := blockNewsUptoRow.holds Tryd.pinned (OpenSpec.upto blockNewsSpec)

/-- 'lockboxlaw05.BlockAsks', WHERE WHAT IT READS IS OF BULK AT MOST 1048576: true; the input reads as it did. -/
def blockAsksUptoRow : OpenClaim := { program := "ytjbdhnmkeaogcaadoor", sum := "3216e5b02a2baf39755fcedc16feee3449299543e55e703b240d8aaa6c6936af", func := "lockbox/lockboxlaw05.BlockAsks", spec := "blockAsks", inPlace := ["internal/reflectlite.ValueOf", "(internal/reflectlite.Value).Type", "(internal/reflectlite.Value).IsNil", "internal/reflectlite.TypeOf", "(internal/reflectlite.Value).Elem", "(internal/reflectlite.Value).Set"], unfollowed := true, recurses := true, named := ["errors.errorType"], apart := false, laid := [("errors.errorType", laid_errors_errorType)], narrowed := true }
def BlockAsksUptoSaid : Prop := blockAsksUptoRow.holds Tryd.pinned (OpenSpec.upto blockAsksSpec)

/-- 'lockboxlaw05.BlockBack', WHERE WHAT IT READS IS OF BULK AT MOST 1048576: true; the input reads as it did. -/
def blockBackUptoRow : OpenClaim := { program := "ytjbdhnmkeaogcaadoor", sum := "3216e5b02a2baf39755fcedc16feee3449299543e55e703b240d8aaa6c6936af", func := "lockbox/lockboxlaw05.BlockBack", spec := "blockBack", inPlace := ["internal/reflectlite.ValueOf", "(internal/reflectlite.Value).Type", "(internal/reflectlite.Value).IsNil", "internal/reflectlite.TypeOf", "(internal/reflectlite.Value).Elem", "(internal/reflectlite.Value).Set"], unfollowed := true, recurses := true, named := ["errors.errorType"], apart := false, laid := [("errors.errorType", laid_errors_errorType)], narrowed := true }
def BlockBackUptoSaid : Prop := blockBackUptoRow.holds Tryd.pinned (OpenSpec.upto blockBackSpec)

/-- 'lockboxlaw05.BlockOne', WHERE WHAT IT READS IS OF BULK AT MOST 1048576: true; the input reads as it did. -/
def blockOneUptoRow : OpenClaim := { program := "ytjbdhnmkeaogcaadoor", sum := "3216e5b02a2baf39755fcedc16feee3449299543e55e703b240d8aaa6c6936af", func := "lockbox/lockboxlaw05.BlockOne", spec := "blockOne", inPlace := ["internal/reflectlite.ValueOf", "(internal/reflectlite.Value).Type", "(internal/reflectlite.Value).IsNil", "internal/reflectlite.TypeOf", "(internal/reflectlite.Value).Elem", "(internal/reflectlite.Value).Set"], unfollowed := true, recurses := true, named := ["errors.errorType"], apart := false, laid := [("errors.errorType", laid_errors_errorType)], narrowed := true }
def BlockOneUptoSaid : Prop := blockOneUptoRow.holds Tryd.pinned (OpenSpec.upto blockOneSpec)

/-- 'lockboxlaw05.BlockKeeps', WHERE WHAT IT READS IS OF BULK AT MOST 1048576: true; the input reads as it did. -/
def blockKeepsUptoRow : OpenClaim := { program := "ytjbdhnmkeaogcaadoor", sum := "3216e5b02a2baf39755fcedc16feee3449299543e55e703b240d8aaa6c6936af", func := "lockbox/lockboxlaw05.BlockKeeps", spec := "blockKeeps", inPlace := ["internal/reflectlite.ValueOf", "(internal/reflectlite.Value).Type", "(internal/reflectlite.Value).IsNil", "internal/reflectlite.TypeOf", "(internal/reflectlite.Value).Elem", "(internal/reflectlite.Value).Set"], unfollowed := true, recurses := true, named := ["errors.errorType"], apart := false, laid := [("errors.errorType", laid_errors_errorType)], narrowed := true }
def BlockKeepsUptoSaid : Prop := blockKeepsUptoRow.holds Tryd.pinned (OpenSpec.upto blockKeepsSpec)

/-- 'lockboxlaw05.BlockRows', WHERE WHAT IT READS IS OF BULK AT MOST 1048576: true; the input reads as it did. -/
def blockRowsUptoRow : OpenClaim := { program := "ytjbdhnmkeaogcaadoor", sum := "3216e5b02a2baf39755fcedc16feee3449299543e55e703b240d8aaa6c6936af", func := "lockbox/lockboxlaw05.BlockRows", spec := "blockRows", inPlace := ["internal/reflectlite.ValueOf", "(internal/reflectlite.Value).Type", "(internal/reflectlite.Value).IsNil", "internal/reflectlite.TypeOf", "(internal/reflectlite.Value).Elem", "(internal/reflectlite.Value).Set"], unfollowed := true, recurses := true, named := ["errors.errorType"], apart := false, laid := [("errors.errorType", laid_errors_errorType)], narrowed := true }
def BlockRowsUptoSaid : Prop := blockRowsUptoRow.holds Tryd.pinned (OpenSpec.upto blockRowsSpec)

/-- 'lockboxlaw06.ModeXors', WHERE WHAT IT READS IS OF BULK AT MOST 1048576: true; the input reads as it did. -/
def modeXorsUptoRow : OpenClaim := { program := "ytjbdhnmkeaogcaadoor", sum := "3216e5b02a2baf39755fcedc16feee3449299543e55e703b240d8aaa6c6936af", func := "lockbox/lockboxlaw06.ModeXors", spec := "modeXors", inPlace := ["internal/reflectlite.ValueOf", "(internal/reflectlite.Value).Type", "(internal/reflectlite.Value).IsNil", "internal/reflectlite.TypeOf", "(internal/reflectlite.Value).Elem", "(internal/reflectlite.Value).Set"], unfollowed := true, recurses := true, named := ["errors.errorType"], apart := false, laid := [("errors.errorType", laid_errors_errorType)], narrowed := true }
def ModeXorsUptoSaid : Prop := modeXorsUptoRow.holds Tryd.pinned (OpenSpec.upto modeXorsSpec)

/-- 'lockboxlaw06.ModeBack', WHERE WHAT IT READS IS OF BULK AT MOST 1048576: true; the input reads as it did. -/
def modeBackUptoRow : OpenClaim := { program := "ytjbdhnmkeaogcaadoor", sum := "3216e5b02a2baf39755fcedc16feee3449299543e55e703b240d8aaa6c6936af", func := "lockbox/lockboxlaw06.ModeBack", spec := "modeBack", inPlace := ["internal/reflectlite.ValueOf", "(internal/reflectlite.Value).Type", "(internal/reflectlite.Value).IsNil", "internal/reflectlite.TypeOf", "(internal/reflectlite.Value).Elem", "(internal/reflectlite.Value).Set"], unfollowed := true, recurses := true, named := ["errors.errorType"], apart := false, laid := [("errors.errorType", laid_errors_errorType)], narrowed := true }
def ModeBackUptoSaid : Prop := modeBackUptoRow.holds Tryd.pinned (OpenSpec.upto modeBackSpec)

/-- 'lockboxlaw06.ModeParts', WHERE WHAT IT READS IS OF BULK AT MOST 1048576: true; the input reads as it did. -/
def modePartsUptoRow : OpenClaim := { program := "ytjbdhnmkeaogcaadoor", sum := "3216e5b02a2baf39755fcedc16feee3449299543e55e703b240d8aaa6c6936af", func := "lockbox/lockboxlaw06.ModeParts", spec := "modeParts", inPlace := ["internal/reflectlite.ValueOf", "(internal/reflectlite.Value).Type", "(internal/reflectlite.Value).IsNil", "internal/reflectlite.TypeOf", "(internal/reflectlite.Value).Elem", "(internal/reflectlite.Value).Set"], unfollowed := true, recurses := true, named := ["errors.errorType"], apart := false, laid := [("errors.errorType", laid_errors_errorType)], narrowed := true }
def ModePartsUptoSaid : Prop := modePartsUptoRow.holds Tryd.pinned (OpenSpec.upto modePartsSpec)

/-- 'lockboxlaw06.ModeKeeps', WHERE WHAT IT READS IS OF BULK AT MOST 1048576: true; the input reads as it did. -/
def modeKeepsUptoRow : OpenClaim := { program := "ytjbdhnmkeaogcaadoor", sum := "3216e5b02a2baf39755fcedc16feee3449299543e55e703b240d8aaa6c6936af", func := "lockbox/lockboxlaw06.ModeKeeps", spec := "modeKeeps", inPlace := ["internal/reflectlite.ValueOf", "(internal/reflectlite.Value).Type", "(internal/reflectlite.Value).IsNil", "internal/reflectlite.TypeOf", "(internal/reflectlite.Value).Elem", "(internal/reflectlite.Value).Set"], unfollowed := true, recurses := true, named := ["errors.errorType"], apart := false, laid := [("errors.errorType", laid_errors_errorType)], narrowed := true }
def ModeKeepsUptoSaid : Prop := modeKeepsUptoRow.holds Tryd.pinned (OpenSpec.upto modeKeepsSpec)

/-- 'lockboxlaw07.MacRetails', WHERE WHAT IT READS IS OF BULK AT MOST 1048576: true; the input reads as it did. -/
def macRetailsUptoRow : OpenClaim := { program := "ytjbdhnmkeaogcaadoor", sum := "3216e5b02a2baf39755fcedc16feee3449299543e55e703b240d8aaa6c6936af", func := "lockbox/lockboxlaw07.MacRetails", spec := "macRetails", inPlace := ["internal/reflectlite.ValueOf", "(internal/reflectlite.Value).Type", "(internal/reflectlite.Value).IsNil", "internal/reflectlite.TypeOf", "(internal/reflectlite.Value).Elem", "(internal/reflectlite.Value).Set"], unfollowed := true, recurses := true, named := ["errors.errorType"], apart := false, laid := [("errors.errorType", laid_errors_errorType)], narrowed := true }
def MacRetailsUptoSaid : Prop := macRetailsUptoRow.holds Tryd.pinned (OpenSpec.upto macRetailsSpec)

/-- 'lockboxlaw19.ArqcMakes', WHERE WHAT IT READS IS OF BULK AT MOST 1048576: true; the input reads as it did. -/
def arqcMakesUptoRow : OpenClaim := { program := "ytjbdhnmkeaogcaadoor", sum := "3216e5b02a2baf39755fcedc16feee3449299543e55e703b240d8aaa6c6936af", func := "lockbox/lockboxlaw19.ArqcMakes", spec := "arqcMakes", inPlace := ["internal/reflectlite.ValueOf", "(internal/reflectlite.Value).Type", "(internal/reflectlite.Value).IsNil", "internal/reflectlite.TypeOf", "(internal/reflectlite.Value).Elem", "(internal/reflectlite.Value).Set"], unfollowed := true, recurses := true, named := ["errors.errorType"], apart := false, laid := [("errors.errorType", laid_errors_errorType)], narrowed := true }
def ArqcMakesUptoSaid : Prop := arqcMakesUptoRow.holds Tryd.pinned (OpenSpec.upto arqcMakesSpec)

/-- 'lockboxlaw19.ArqcAnswers', WHERE WHAT IT READS IS OF BULK AT MOST 1048576: true; the input reads as it did. -/
def arqcAnswersUptoRow : OpenClaim := { program := "ytjbdhnmkeaogcaadoor", sum := "3216e5b02a2baf39755fcedc16feee3449299543e55e703b240d8aaa6c6936af", func := "lockbox/lockboxlaw19.ArqcAnswers", spec := "arqcAnswers", inPlace := ["internal/reflectlite.ValueOf", "(internal/reflectlite.Value).Type", "(internal/reflectlite.Value).IsNil", "internal/reflectlite.TypeOf", "(internal/reflectlite.Value).Elem", "(internal/reflectlite.Value).Set"], unfollowed := true, recurses := true, named := ["errors.errorType"], apart := false, laid := [("errors.errorType", laid_errors_errorType)], narrowed := true }
def ArqcAnswersUptoSaid : Prop := arqcAnswersUptoRow.holds Tryd.pinned (OpenSpec.upto arqcAnswersSpec)

/-- 'lockboxlaw19.ArqcAsks', WHERE WHAT IT READS IS OF BULK AT MOST 1048576: true; the input reads as it did. -/
def arqcAsksUptoRow : OpenClaim := { program := "ytjbdhnmkeaogcaadoor", sum := "3216e5b02a2baf39755fcedc16feee3449299543e55e703b240d8aaa6c6936af", func := "lockbox/lockboxlaw19.ArqcAsks", spec := "arqcAsks", inPlace := ["internal/reflectlite.ValueOf", "(internal/reflectlite.Value).Type", "(internal/reflectlite.Value).IsNil", "internal/reflectlite.TypeOf", "(internal/reflectlite.Value).Elem", "(internal/reflectlite.Value).Set"], unfollowed := true, recurses := true, named := ["errors.errorType"], apart := false, laid := [("errors.errorType", laid_errors_errorType)], narrowed := true }
def ArqcAsksUptoSaid : Prop := arqcAsksUptoRow.holds Tryd.pinned (OpenSpec.upto arqcAsksSpec)

/-- 'lockboxlaw24.GuardFive', WHERE WHAT IT READS IS OF BULK AT MOST 1048576: true; the input reads as it did. -/
def guardFiveUptoRow : OpenClaim := { program := "ytjbdhnmkeaogcaadoor", sum := "3216e5b02a2baf39755fcedc16feee3449299543e55e703b240d8aaa6c6936af", func := "lockbox/lockboxlaw24.GuardFive", spec := "guardFive", inPlace := ["internal/reflectlite.ValueOf", "(internal/reflectlite.Value).Type", "(internal/reflectlite.Value).IsNil", "internal/reflectlite.TypeOf", "(internal/reflectlite.Value).Elem", "(internal/reflectlite.Value).Set"], unfollowed := true, recurses := true, named := ["errors.errorType"], apart := false, laid := [("errors.errorType", laid_errors_errorType)], narrowed := true }
def GuardFiveUptoSaid : Prop := guardFiveUptoRow.holds Tryd.pinned (OpenSpec.upto guardFiveSpec)

/-- 'lockboxlaw24.GuardLeaves', WHERE WHAT IT READS IS OF BULK AT MOST 1048576: true; the input reads as it did. -/
def guardLeavesUptoRow : OpenClaim := { program := "ytjbdhnmkeaogcaadoor", sum := "3216e5b02a2baf39755fcedc16feee3449299543e55e703b240d8aaa6c6936af", func := "lockbox/lockboxlaw24.GuardLeaves", spec := "guardLeaves", inPlace := ["internal/reflectlite.ValueOf", "(internal/reflectlite.Value).Type", "(internal/reflectlite.Value).IsNil", "internal/reflectlite.TypeOf", "(internal/reflectlite.Value).Elem", "(internal/reflectlite.Value).Set"], unfollowed := true, recurses := true, named := ["errors.errorType"], apart := false, laid := [("errors.errorType", laid_errors_errorType)], narrowed := true }
def GuardLeavesUptoSaid : Prop := guardLeavesUptoRow.holds Tryd.pinned (OpenSpec.upto guardLeavesSpec)

/-- 'lockboxlaw09.PartJoin', WHERE WHAT IT READS IS OF BULK AT MOST 1048576: true; the input reads as it did. -/
def partJoinUptoRow : OpenClaim := { program := "ytjbdhnmkeaogcaadoor", sum := "3216e5b02a2baf39755fcedc16feee3449299543e55e703b240d8aaa6c6936af", func := "lockbox/lockboxlaw09.PartJoin", spec := "partJoin", inPlace := ["internal/reflectlite.ValueOf", "(internal/reflectlite.Value).Type", "(internal/reflectlite.Value).IsNil", "internal/reflectlite.TypeOf", "(internal/reflectlite.Value).Elem", "(internal/reflectlite.Value).Set"], unfollowed := true, recurses := true, named := ["errors.errorType"], apart := false, laid := [("errors.errorType", laid_errors_errorType)], narrowed := true }
def PartJoinUptoSaid : Prop := partJoinUptoRow.holds Tryd.pinned (OpenSpec.upto partJoinSpec)

/-- 'lockboxlaw09.PartKeeps', WHERE WHAT IT READS IS OF BULK AT MOST 1048576: true; the input reads as it did. -/
def partKeepsUptoRow : OpenClaim := { program := "ytjbdhnmkeaogcaadoor", sum := "3216e5b02a2baf39755fcedc16feee3449299543e55e703b240d8aaa6c6936af", func := "lockbox/lockboxlaw09.PartKeeps", spec := "partKeeps", inPlace := ["internal/reflectlite.ValueOf", "(internal/reflectlite.Value).Type", "(internal/reflectlite.Value).IsNil", "internal/reflectlite.TypeOf", "(internal/reflectlite.Value).Elem", "(internal/reflectlite.Value).Set"], unfollowed := true, recurses := true, named := ["errors.errorType"], apart := false, laid := [("errors.errorType", laid_errors_errorType)], narrowed := true }
def PartKeepsUptoSaid : Prop := partKeepsUptoRow.holds Tryd.pinned (OpenSpec.upto partKeepsSpec)

/-- 'lockboxlaw09.PartOdd', WHERE WHAT IT READS IS OF BULK AT MOST 1048576: true; the input reads as it did. -/
def partOddUptoRow : OpenClaim := { program := "ytjbdhnmkeaogcaadoor", sum := "3216e5b02a2baf39755fcedc16feee3449299543e55e703b240d8aaa6c6936af", func := "lockbox/lockboxlaw09.PartOdd", spec := "partOdd", inPlace := ["internal/reflectlite.ValueOf", "(internal/reflectlite.Value).Type", "(internal/reflectlite.Value).IsNil", "internal/reflectlite.TypeOf", "(internal/reflectlite.Value).Elem", "(internal/reflectlite.Value).Set"], unfollowed := true, recurses := true, named := ["errors.errorType"], apart := false, laid := [("errors.errorType", laid_errors_errorType)], narrowed := true }
def PartOddUptoSaid : Prop := partOddUptoRow.holds Tryd.pinned (OpenSpec.upto partOddSpec)

/-- 'lockboxlaw09.PartRights', WHERE WHAT IT READS IS OF BULK AT MOST 1048576: true; the input reads as it did. -/
def partRightsUptoRow : OpenClaim := { program := "ytjbdhnmkeaogcaadoor", sum := "3216e5b02a2baf39755fcedc16feee3449299543e55e703b240d8aaa6c6936af", func := "lockbox/lockboxlaw09.PartRights", spec := "partRights", inPlace := ["internal/reflectlite.ValueOf", "(internal/reflectlite.Value).Type", "(internal/reflectlite.Value).IsNil", "internal/reflectlite.TypeOf", "(internal/reflectlite.Value).Elem", "(internal/reflectlite.Value).Set"], unfollowed := true, recurses := true, named := ["errors.errorType"], apart := false, laid := [("errors.errorType", laid_errors_errorType)], narrowed := true }
def PartRightsUptoSaid : Prop := partRightsUptoRow.holds Tryd.pinned (OpenSpec.upto partRightsSpec)

/-- 'lockboxlaw09.PartJoins', WHERE WHAT IT READS IS OF BULK AT MOST 1048576: true; the input reads as it did. -/
def partJoinsUptoRow : OpenClaim := { program := "ytjbdhnmkeaogcaadoor", sum := "3216e5b02a2baf39755fcedc16feee3449299543e55e703b240d8aaa6c6936af", func := "lockbox/lockboxlaw09.PartJoins", spec := "partJoins", inPlace := ["internal/reflectlite.ValueOf", "(internal/reflectlite.Value).Type", "(internal/reflectlite.Value).IsNil", "internal/reflectlite.TypeOf", "(internal/reflectlite.Value).Elem", "(internal/reflectlite.Value).Set"], unfollowed := true, recurses := true, named := ["errors.errorType"], apart := false, laid := [("errors.errorType", laid_errors_errorType)], narrowed := true }
def PartJoinsUptoSaid : Prop := partJoinsUptoRow.holds Tryd.pinned (OpenSpec.upto partJoinsSpec)

end Rows
end Go.Proofs.YtjbdhnmkeaogcaaDoor
