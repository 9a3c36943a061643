/-
  NARROWER THAN 'FOR EVERY INPUT', by the rows' own cells (each row's printed sentence says how): BlockNews: laid · BlockAsks: laid · BlockBack: laid · BlockOne: laid · BlockKeeps: laid · BlockRows: laid · OffsetBack: laid.
  DERIVED. THE GIVEN ROWS OF THIS SEAT. 7 by the template 'for every input the law returns true; each argument reads behind the call as it read before'; 0 by the template 'total and deterministic' (their statements: YtbbfjlnkhenbiaaDoorTotals.lean).
  GIVEN WITH THE SEED: the statements are not yours to turn. If you find one false, say at which input.
  Laid BY PROGRAM, IN A SANDBOX (cutbox-rows.mjs): the forced cells as the released guide's own fill.sh prints them over the translation e811a141fb443cf7… (all of the seat's roots in one cut). By AI agents, Wed Nov 11 2026. No macro, syntax, notation, axiom, sorry.
-/
import Derived.Test.YtbbfjlnkhenbiaaDoorChecked
import GoSem.Claim
import GoSem.ClaimJoined
import GoSem.ClaimMapViews
import Derived.JoinedTies
import Derived.KernelRfl
namespace Go.Proofs.YtbbfjlnkhenbiaaDoor
/- THE CELL 'sum', in the pinned program and in every row, IS THE sha256 OF THE DUMP (.gsa) THAT YtbbfjlnkhenbiaaDoorProg.lean LOADS. Nothing in Lean hashes anything: it is a label: what it is worth is what the hold of that sum in a sandbox is worth. -/
noncomputable def Tryd.pinned : Pinned := { name := "ytbbfjlnkhenbiaadoor", sum := "e811a141fb443cf7d091781c06a15463a13e35a9b026572035b15a42c302b559", checked := Tryd.checked }
namespace Rows
def none {H : Type} : Left H := { results := [], args := [] }

/- WHAT THE LISTED PACKAGE-LEVEL VARIABLES READ AS WHEN THE CALL BEGINS. Each datum BY PROGRAM (the guide's laid-datum.mjs) off the statement by which the dump's own 'gosem.cut.vars' lays the variable. In a bare row this is a premise. The card (YtbbfjlnkhenbiaaDoorCards.lean) ties it to the program's text. -/
def laid_errors_errorType {H : Type} : DataW H := .iface "internal/reflectlite.rtype" (.agg [.ptr (.lit (.string [101, 114, 114, 111, 114]))])

/-- 'lockboxlaw05.BlockNews': WHATEVER THE INPUT: true; the input reads as it did. -/
def blockNewsSpec : ChangeSpec := { name := "blockNews", fn := fun _ => fun
  | [d1, d2, d3] => { results := [.lit (.bool true)], args := [d1, d2, d3] }
  | _ => none }
def blockNewsRow : OpenClaim := { program := "ytbbfjlnkhenbiaadoor", sum := "e811a141fb443cf7d091781c06a15463a13e35a9b026572035b15a42c302b559", func := "lockbox/lockboxlaw05.BlockNews", spec := "blockNews", inPlace := ["internal/reflectlite.ValueOf", "(internal/reflectlite.Value).Type", "(internal/reflectlite.Value).IsNil", "internal/reflectlite.TypeOf", "(internal/reflectlite.Value).Elem", "(internal/reflectlite.Value).Set"], unfollowed := true, recurses := true, named := ["errors.errorType"], apart := false, laid := [("errors.errorType", laid_errors_errorType)] }
def BlockNewsSaid : Prop := blockNewsRow.holds Tryd.pinned (OpenSpec.ofChange blockNewsSpec)

/-- ITS FALSE NEIGHBOUR: 'it returns false'. Refute it at one input. -/
def blockNewsWrong : ChangeSpec := { name := "blockNews", fn := fun _ => fun
  | [d1, d2, d3] => { results := [.lit (.bool false)], args := [d1, d2, d3] }
  | _ => none }
def BlockNewsWrongFalsely : Prop := blockNewsRow.holds Tryd.pinned (OpenSpec.ofChange blockNewsWrong)

/-- 'lockboxlaw05.BlockAsks': WHATEVER THE INPUT: true; the input reads as it did. -/
def blockAsksSpec : ChangeSpec := { name := "blockAsks", fn := fun _ => fun
  | [d1, d2, d3, d4] => { results := [.lit (.bool true)], args := [d1, d2, d3, d4] }
  | _ => none }
def blockAsksRow : OpenClaim := { program := "ytbbfjlnkhenbiaadoor", sum := "e811a141fb443cf7d091781c06a15463a13e35a9b026572035b15a42c302b559", func := "lockbox/lockboxlaw05.BlockAsks", spec := "blockAsks", inPlace := ["internal/reflectlite.ValueOf", "(internal/reflectlite.Value).Type", "(internal/reflectlite.Value).IsNil", "internal/reflectlite.TypeOf", "(internal/reflectlite.Value).Elem", "(internal/reflectlite.Value).Set"], unfollowed := true, recurses := true, named := ["errors.errorType"], apart := false, laid := [("errors.errorType", laid_errors_errorType)] }
def BlockAsksSaid : Prop := blockAsksRow.holds Tryd.pinned (OpenSpec.ofChange blockAsksSpec)

/-- ITS FALSE NEIGHBOUR: 'it returns false'. Refute it at one input. -/
def blockAsksWrong : ChangeSpec := { name := "blockAsks", fn := fun _ => fun
  | [d1, d2, d3, d4] => { results := [.lit (.bool false)], args := [d1, d2, d3, d4] }
  | _ => none }
def BlockAsksWrongFalsely : Prop := blockAsksRow.holds Tryd.pinned (OpenSpec.ofChange blockAsksWrong)

/-- 'lockboxlaw05.BlockBack': WHATEVER THE INPUT: true; the input reads as it did. -/
def blockBackSpec : ChangeSpec := { name := "blockBack", fn := fun _ => fun
  | [d1, d2, d3, d4, d5] => { results := [.lit (.bool true)], args := [d1, d2, d3, d4, d5] }
  | _ => none }
def blockBackRow : OpenClaim := { program := "ytbbfjlnkhenbiaadoor", sum := "e811a141fb443cf7d091781c06a15463a13e35a9b026572035b15a42c302b559", func := "lockbox/lockboxlaw05.BlockBack", spec := "blockBack", inPlace := ["internal/reflectlite.ValueOf", "(internal/reflectlite.Value).Type", "(internal/reflectlite.Value).IsNil", "internal/reflectlite.TypeOf", "(internal/reflectlite.Value).Elem", "(internal/reflectlite.Value).Set"], unfollowed := true, recurses := true, named := ["errors.errorType"], apart := false, laid := [("errors.errorType", laid_errors_errorType)] }
def BlockBackSaid : Prop := blockBackRow.holds Tryd.pinned (OpenSpec.ofChange blockBackSpec)

/-- ITS FALSE NEIGHBOUR: 'it returns false'. Refute it at one input. -/
def blockBackWrong : ChangeSpec := { name := "blockBack", fn := fun _ => fun
  | [d1, d2, d3, d4, d5] => { results := [.lit (.bool false)], args := [d1, d2, d3, d4, d5] }
  | _ => none }
def BlockBackWrongFalsely : Prop := blockBackRow.holds Tryd.pinned (OpenSpec.ofChange blockBackWrong)

/-- 'lockboxlaw05.BlockOne': WHATEVER THE INPUT: true; the input reads as it did. -/
def blockOneSpec : ChangeSpec := { name := "blockOne", fn := fun _ => fun
  | [d1, d2, d3, d4, d5, d6] => { results := [.lit (.bool true)], args := [d1, d2, d3, d4, d5, d6] }
  | _ => none }
def blockOneRow : OpenClaim := { program := "ytbbfjlnkhenbiaadoor", sum := "e811a141fb443cf7d091781c06a15463a13e35a9b026572035b15a42c302b559", func := "lockbox/lockboxlaw05.BlockOne", spec := "blockOne", inPlace := ["internal/reflectlite.ValueOf", "(internal/reflectlite.Value).Type", "(internal/reflectlite.Value).IsNil", "internal/reflectlite.TypeOf", "(internal/reflectlite.Value).Elem", "(internal/reflectlite.Value).Set"], unfollowed := true, recurses := true, named := ["errors.errorType"], apart := false, laid := [("errors.errorType", laid_errors_errorType)] }
def BlockOneSaid : Prop := blockOneRow.holds Tryd.pinned (OpenSpec.ofChange blockOneSpec)

/-- ITS FALSE NEIGHBOUR: 'it returns false'. Refute it at one input. -/
def blockOneWrong : ChangeSpec := { name := "blockOne", fn := fun _ => fun
  | [d1, d2, d3, d4, d5, d6] => { results := [.lit (.bool false)], args := [d1, d2, d3, d4, d5, d6] }
  | _ => none }
def BlockOneWrongFalsely : Prop := blockOneRow.holds Tryd.pinned (OpenSpec.ofChange blockOneWrong)

/-- 'lockboxlaw05.BlockKeeps': WHATEVER THE INPUT: true; the input reads as it did. -/
def blockKeepsSpec : ChangeSpec := { name := "blockKeeps", fn := fun _ => fun
  | [d1, d2, d3, d4] => { results := [.lit (.bool true)], args := [d1, d2, d3, d4] }
  | _ => none }
def blockKeepsRow : OpenClaim := { program := "ytbbfjlnkhenbiaadoor", sum := "e811a141fb443cf7d091781c06a15463a13e35a9b026572035b15a42c302b559", func := "lockbox/lockboxlaw05.BlockKeeps", spec := "blockKeeps", inPlace := ["internal/reflectlite.ValueOf", "(internal/reflectlite.Value).Type", "(internal/reflectlite.Value).IsNil", "internal/reflectlite.TypeOf", "(internal/reflectlite.Value).Elem", "(internal/reflectlite.Value).Set"], unfollowed := true, recurses := true, named := ["errors.errorType"], apart := false, laid := [("errors.errorType", laid_errors_errorType)] }
def BlockKeepsSaid : Prop := blockKeepsRow.holds Tryd.pinned (OpenSpec.ofChange blockKeepsSpec)

/-- ITS FALSE NEIGHBOUR: 'it returns false'. Refute it at one input. -/
def blockKeepsWrong : ChangeSpec := { name := "blockKeeps", fn := fun _ => fun
  | [d1, d2, d3, d4] => { results := [.lit (.bool false)], args := [d1, d2, d3, d4] }
  | _ => none }
def BlockKeepsWrongFalsely : Prop := blockKeepsRow.holds Tryd.pinned (OpenSpec.ofChange blockKeepsWrong)

/-- 'lockboxlaw05.BlockRows': WHATEVER THE INPUT: true; the input reads as it did. -/
def blockRowsSpec : ChangeSpec := { name := "blockRows", fn := fun _ => fun
  | [d1, d2, d3] => { results := [.lit (.bool true)], args := [d1, d2, d3] }
  | _ => none }
def blockRowsRow : OpenClaim := { program := "ytbbfjlnkhenbiaadoor", sum := "e811a141fb443cf7d091781c06a15463a13e35a9b026572035b15a42c302b559", func := "lockbox/lockboxlaw05.BlockRows", spec := "blockRows", inPlace := ["internal/reflectlite.ValueOf", "(internal/reflectlite.Value).Type", "(internal/reflectlite.Value).IsNil", "internal/reflectlite.TypeOf", "(internal/reflectlite.Value).Elem", "(internal/reflectlite.Value).Set"], unfollowed := true, recurses := true, named := ["errors.errorType"], apart := false, laid := [("errors.errorType", laid_errors_errorType)] }
def BlockRowsSaid : Prop := blockRowsRow.holds Tryd.pinned (OpenSpec.ofChange blockRowsSpec)

/-- ITS FALSE NEIGHBOUR: 'it returns false'. Refute it at one input. -/
def blockRowsWrong : ChangeSpec := { name := "blockRows", fn := fun _ => fun
  | [d1, d2, d3] => { results := [.lit (.bool false)], args := [d1, d2, d3] }
  | _ => none }
def BlockRowsWrongFalsely : Prop := blockRowsRow.holds Tryd.pinned (OpenSpec.ofChange blockRowsWrong)

/-- 'lockboxlaw15.OffsetBack': WHATEVER THE INPUT: true; the input reads as it did. -/
def offsetBackSpec : ChangeSpec := { name := "offsetBack", fn := fun _ => fun
  | [d1, d2, d3, d4] => { results := [.lit (.bool true)], args := [d1, d2, d3, d4] }
  | _ => none }
def offsetBackRow : OpenClaim := { program := "ytbbfjlnkhenbiaadoor", sum := "e811a141fb443cf7d091781c06a15463a13e35a9b026572035b15a42c302b559", func := "lockbox/lockboxlaw15.OffsetBack", spec := "offsetBack", inPlace := ["internal/bytealg.IndexByteString", "internal/abi.NoEscape", "internal/reflectlite.ValueOf", "(internal/reflectlite.Value).Type", "(internal/reflectlite.Value).IsNil", "internal/reflectlite.TypeOf", "(internal/reflectlite.Value).Elem", "(internal/reflectlite.Value).Set"], unfollowed := true, recurses := true, named := ["errors.errorType"], apart := false, laid := [("errors.errorType", laid_errors_errorType)] }
def OffsetBackSaid : Prop := offsetBackRow.holds Tryd.pinned (OpenSpec.ofChange offsetBackSpec)

/-- ITS FALSE NEIGHBOUR: 'it returns false'. Refute it at one input. -/
def offsetBackWrong : ChangeSpec := { name := "offsetBack", fn := fun _ => fun
  | [d1, d2, d3, d4] => { results := [.lit (.bool false)], args := [d1, d2, d3, d4] }
  | _ => none }
def OffsetBackWrongFalsely : Prop := offsetBackRow.holds Tryd.pinned (OpenSpec.ofChange offsetBackWrong)

/- THE SECOND FORM. 'bulk': how many values and letters a reading holds, each counted each time it is reached (what is shared counts as often as it is met; a slice's spare places count too). A statement '..UptoSaid' is the law's where the arguments, and the package variables that the reading takes, are together of bulk at most 1048576: NARROWER than '..Said'. Prove '..Said' where nothing that the law and all that it calls make is longer than what came in: it says more and counts as full. Else prove '..UptoSaid'. A law counts once. -/
mutual
def uptoBulk {H : Type} : DataW H → Nat
  | .lit (.string bytes) => bytes.length + 1
  | .lit _ => 1
  | .nil => 1
  | .ptr d => uptoBulk d + 1
  | .slice elems spare => uptoBulkAll elems + uptoBulkAll spare + 1
  | .agg parts => uptoBulkAll parts + 1
  | .iface _ d => uptoBulk d + 1
  | .map entries => uptoBulkEntries entries + 1
  | .held _ => 1
def uptoBulkAll {H : Type} : List (DataW H) → Nat
  | [] => 0
  | d :: r => uptoBulk d + uptoBulkAll r
def uptoBulkEntries {H : Type} : List (Lit × DataW H) → Nat
  | [] => 0
  | x :: r => uptoBulkEntry x + uptoBulkEntries r
def uptoBulkEntry {H : Type} : Lit × DataW H → Nat
  | (.string bytes, d) => bytes.length + uptoBulk d + 1
  | (_, d) => uptoBulk d + 1
 end
def uptoSmall : (H : Type) → List (DataW H) → Bool := fun _ ds => decide (uptoBulkAll ds ≤ 1048576)
def OpenSpec.upto (s : _root_.Go.ChangeSpec) : _root_.Go.OpenSpec := { _root_.Go.OpenSpec.ofChange s with cond := some uptoSmall }

/-- 'lockboxlaw05.BlockNews', WHERE WHAT IT READS IS OF BULK AT MOST 1048576: true; the input reads as it did. -/
def blockNewsUptoRow : OpenClaim := { program := "ytbbfjlnkhenbiaadoor", sum := "e811a141fb443cf7d091781c06a15463a13e35a9b026572035b15a42c302b559", func := "lockbox/lockboxlaw05.BlockNews", spec := "blockNews", inPlace := ["internal/reflectlite.ValueOf", "(internal/reflectlite.Value).Type", "(internal/reflectlite.Value).IsNil", "internal/reflectlite.TypeOf", "(internal/reflectlite.Value).Elem", "(internal/reflectlite.Value).Set"], unfollowed := true, recurses := true, named := ["errors.errorType"], apart := false, laid := [("errors.errorType", laid_errors_errorType)], narrowed := true }
def BlockNewsUptoSaid : Prop := blockNewsUptoRow.holds Tryd.pinned (OpenSpec.upto blockNewsSpec)

/-- 'lockboxlaw05.BlockAsks', WHERE WHAT IT READS IS OF BULK AT MOST 1048576: true; the input reads as it did. -/
def blockAsksUptoRow : OpenClaim := { program := "ytbbfjlnkhenbiaadoor", sum := "e811a141fb443cf7d091781c06a15463a13e35a9b026572035b15a42c302b559", func := "lockbox/lockboxlaw05.BlockAsks", spec := "blockAsks", inPlace := ["internal/reflectlite.ValueOf", "(internal/reflectlite.Value).Type", "(internal/reflectlite.Value).IsNil", "internal/reflectlite.TypeOf", "(internal/reflectlite.Value).Elem", "(internal/reflectlite.Value).Set"], unfollowed := true, recurses := true, named := ["errors.errorType"], apart := false, laid := [("errors.errorType", laid_errors_errorType)], narrowed := true }
def BlockAsksUptoSaid : Prop := blockAsksUptoRow.holds Tryd.pinned (OpenSpec.upto blockAsksSpec)

/-- 'lockboxlaw05.BlockBack', WHERE WHAT IT READS IS OF BULK AT MOST 1048576: true; the input reads as it did. -/
def blockBackUptoRow : OpenClaim := { program := "ytbbfjlnkhenbiaadoor", sum := "e811a141fb443cf7d091781c06a15463a13e35a9b026572035b15a42c302b559", func := "lockbox/lockboxlaw05.BlockBack", spec := "blockBack", inPlace := ["internal/reflectlite.ValueOf", "(internal/reflectlite.Value).Type", "(internal/reflectlite.Value).IsNil", "internal/reflectlite.TypeOf", "(internal/reflectlite.Value).Elem", "(internal/reflectlite.Value).Set"], unfollowed := true, recurses := true, named := ["errors.errorType"], apart := false, laid := [("errors.errorType", laid_errors_errorType)], narrowed := true }
def BlockBackUptoSaid : Prop := blockBackUptoRow.holds Tryd.pinned (OpenSpec.upto blockBackSpec)

/-- 'lockboxlaw05.BlockOne', WHERE WHAT IT READS IS OF BULK AT MOST 1048576: true; the input reads as it did. -/
def blockOneUptoRow : OpenClaim := { program := "ytbbfjlnkhenbiaadoor", sum := "e811a141fb443cf7d091781c06a15463a13e35a9b026572035b15a42c302b559", func := "lockbox/lockboxlaw05.BlockOne", spec := "blockOne", inPlace := ["internal/reflectlite.ValueOf", "(internal/reflectlite.Value).Type", "(internal/reflectlite.Value).IsNil", "internal/reflectlite.TypeOf", "(internal/reflectlite.Value).Elem", "(internal/reflectlite.Value).Set"], unfollowed := true, recurses := true, named := ["errors.errorType"], apart := false, laid := [("errors.errorType", laid_errors_errorType)], narrowed := true }
def BlockOneUptoSaid : Prop := blockOneUptoRow.holds Tryd.pinned (OpenSpec.upto blockOneSpec)

/-- 'lockboxlaw05.BlockKeeps', WHERE WHAT IT READS IS OF BULK AT MOST 1048576: true; the input reads as it did. -/
def blockKeepsUptoRow : OpenClaim := { program := "ytbbfjlnkhenbiaadoor", sum := "e811a141fb443cf7d091781c06a15463a13e35a9b026572035b15a42c302b559", func := "lockbox/lockboxlaw05.BlockKeeps", spec := "blockKeeps", inPlace := ["internal/reflectlite.ValueOf", "(internal/reflectlite.Value).Type", "(internal/reflectlite.Value).IsNil", "internal/reflectlite.TypeOf", "(internal/reflectlite.Value).Elem", "(internal/reflectlite.Value).Set"], unfollowed := true, recurses := true, named := ["errors.errorType"], apart := false, laid := [("errors.errorType", laid_errors_errorType)], narrowed := true }
def BlockKeepsUptoSaid : Prop := blockKeepsUptoRow.holds Tryd.pinned (OpenSpec.upto blockKeepsSpec)

/-- 'lockboxlaw05.BlockRows', WHERE WHAT IT READS IS OF BULK AT MOST 1048576: true; the input reads as it did. -/
def blockRowsUptoRow : OpenClaim := { program := "ytbbfjlnkhenbiaadoor", sum := "e811a141fb443cf7d091781c06a15463a13e35a9b026572035b15a42c302b559", func := "lockbox/lockboxlaw05.BlockRows", spec := "blockRows", inPlace := ["internal/reflectlite.ValueOf", "(internal/reflectlite.Value).Type", "(internal/reflectlite.Value).IsNil", "internal/reflectlite.TypeOf", "(internal/reflectlite.Value).Elem", "(internal/reflectlite.Value).Set"], unfollowed := true, recurses := true, named := ["errors.errorType"], apart := false, laid := [("errors.errorType", laid_errors_errorType)], narrowed := true }
def BlockRowsUptoSaid : Prop := blockRowsUptoRow.holds Tryd.pinned (OpenSpec.upto blockRowsSpec)

/-- 'lockboxlaw15.OffsetBack', WHERE WHAT IT READS IS OF BULK AT MOST 1048576: true; the input reads as it did. -/
def offsetBackUptoRow : OpenClaim := { program := "ytbbfjlnkhenbiaadoor", sum := "e811a141fb443cf7d091781c06a15463a13e35a9b026572035b15a42c302b559", func := "lockbox/lockboxlaw15.OffsetBack", spec := "offsetBack", inPlace := ["internal/bytealg.IndexByteString", "internal/abi.NoEscape", "internal/reflectlite.ValueOf", "(internal/reflectlite.Value).Type", "(internal/reflectlite.Value).IsNil", "internal/reflectlite.TypeOf", "(internal/reflectlite.Value).Elem", "(internal/reflectlite.Value).Set"], unfollowed := true, recurses := true, named := ["errors.errorType"], apart := false, laid := [("errors.errorType", laid_errors_errorType)], narrowed := true }
def OffsetBackUptoSaid : Prop := offsetBackUptoRow.holds Tryd.pinned (OpenSpec.upto offsetBackSpec)

end Rows
end Go.Proofs.YtbbfjlnkhenbiaaDoor
