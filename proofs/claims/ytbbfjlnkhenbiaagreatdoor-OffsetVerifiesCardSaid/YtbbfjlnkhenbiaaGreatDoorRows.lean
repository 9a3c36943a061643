/-
  NARROWER THAN 'FOR EVERY INPUT', by the rows' own cells (each row's printed sentence says how): ModeDoes: laid · MacCmacs: laid · GuardTwo: laid · OffsetNaturals: laid · OffsetOfs: laid · OffsetVerifies: laid.
  DERIVED. THE GIVEN ROWS OF THIS SEAT. 6 by the template 'for every input the law returns true; each argument reads behind the call as it read before'; 0 by the template 'total and deterministic' (their statements: YtbbfjlnkhenbiaaGreatDoorTotals.lean).
  GIVEN WITH THE SEED: the statements are not yours to turn. If you find one false, say at which input.
  Laid BY PROGRAM, IN A SANDBOX (cutbox-rows.mjs): the forced cells as the released guide's own fill.sh prints them over the translation aa531a6c5b61b45d… (all of the seat's roots in one cut). By AI agents, Wed Nov 11 2026. No macro, syntax, notation, axiom, sorry.
-/
import Derived.Test.YtbbfjlnkhenbiaaGreatDoorChecked
import GoSem.Claim
import GoSem.ClaimJoined
import GoSem.ClaimMapViews
import Derived.JoinedTies
import Derived.KernelRfl
namespace Go.Proofs.YtbbfjlnkhenbiaaGreatDoor
/- THE CELL 'sum', in the pinned program and in every row, IS THE sha256 OF THE DUMP (.gsa) THAT YtbbfjlnkhenbiaaGreatDoorProg.lean LOADS. Nothing in Lean hashes anything: it is a label: what it is worth is what the hold of that sum in a sandbox is worth. -/
noncomputable def Tryz.pinned : Pinned := { name := "ytbbfjlnkhenbiaagreatdoor", sum := "aa531a6c5b61b45d8569dbeb38e2136055a13109b843c7986571eefcb72fc65c", checked := Tryz.checked }
namespace Rows
def none {H : Type} : Left H := { results := [], args := [] }

/- WHAT THE LISTED PACKAGE-LEVEL VARIABLES READ AS WHEN THE CALL BEGINS. Each datum BY PROGRAM (the guide's laid-datum.mjs) off the statement by which the dump's own 'gosem.cut.vars' lays the variable. In a bare row this is a premise. The card (YtbbfjlnkhenbiaaGreatDoorCards.lean) ties it to the program's text. -/
def laid_errors_errorType {H : Type} : DataW H := .iface "internal/reflectlite.rtype" (.agg [.ptr (.lit (.string [101, 114, 114, 111, 114]))])

/-- 'lockboxlaw06.ModeDoes': WHATEVER THE INPUT: true; the input reads as it did. -/
def modeDoesSpec : ChangeSpec := { name := "modeDoes", fn := fun _ => fun
  | [d1, d2, d3, d4, d5, d6] => { results := [.lit (.bool true)], args := [d1, d2, d3, d4, d5, d6] }
  | _ => none }
def modeDoesRow : OpenClaim := { program := "ytbbfjlnkhenbiaagreatdoor", sum := "aa531a6c5b61b45d8569dbeb38e2136055a13109b843c7986571eefcb72fc65c", func := "lockbox/lockboxlaw06.ModeDoes", spec := "modeDoes", inPlace := ["internal/reflectlite.ValueOf", "(internal/reflectlite.Value).Type", "(internal/reflectlite.Value).IsNil", "internal/reflectlite.TypeOf", "(internal/reflectlite.Value).Elem", "(internal/reflectlite.Value).Set"], unfollowed := true, recurses := true, named := ["errors.errorType"], apart := false, laid := [("errors.errorType", laid_errors_errorType)] }
def ModeDoesSaid : Prop := modeDoesRow.holds Tryz.pinned (OpenSpec.ofChange modeDoesSpec)

/-- ITS FALSE NEIGHBOUR: 'it returns false'. Refute it at one input. -/
def modeDoesWrong : ChangeSpec := { name := "modeDoes", fn := fun _ => fun
  | [d1, d2, d3, d4, d5, d6] => { results := [.lit (.bool false)], args := [d1, d2, d3, d4, d5, d6] }
  | _ => none }
def ModeDoesWrongFalsely : Prop := modeDoesRow.holds Tryz.pinned (OpenSpec.ofChange modeDoesWrong)

/-- 'lockboxlaw07.MacCmacs': WHATEVER THE INPUT: true; the input reads as it did. -/
def macCmacsSpec : ChangeSpec := { name := "macCmacs", fn := fun _ => fun
  | [d1, d2, d3, d4, d5] => { results := [.lit (.bool true)], args := [d1, d2, d3, d4, d5] }
  | _ => none }
def macCmacsRow : OpenClaim := { program := "ytbbfjlnkhenbiaagreatdoor", sum := "aa531a6c5b61b45d8569dbeb38e2136055a13109b843c7986571eefcb72fc65c", func := "lockbox/lockboxlaw07.MacCmacs", spec := "macCmacs", inPlace := ["internal/reflectlite.ValueOf", "(internal/reflectlite.Value).Type", "(internal/reflectlite.Value).IsNil", "internal/reflectlite.TypeOf", "(internal/reflectlite.Value).Elem", "(internal/reflectlite.Value).Set"], unfollowed := true, recurses := true, named := ["errors.errorType"], apart := false, laid := [("errors.errorType", laid_errors_errorType)] }
def MacCmacsSaid : Prop := macCmacsRow.holds Tryz.pinned (OpenSpec.ofChange macCmacsSpec)

/-- ITS FALSE NEIGHBOUR: 'it returns false'. Refute it at one input. -/
def macCmacsWrong : ChangeSpec := { name := "macCmacs", fn := fun _ => fun
  | [d1, d2, d3, d4, d5] => { results := [.lit (.bool false)], args := [d1, d2, d3, d4, d5] }
  | _ => none }
def MacCmacsWrongFalsely : Prop := macCmacsRow.holds Tryz.pinned (OpenSpec.ofChange macCmacsWrong)

/-- 'lockboxlaw24.GuardTwo': WHATEVER THE INPUT: true; the input reads as it did. -/
def guardTwoSpec : ChangeSpec := { name := "guardTwo", fn := fun _ => fun
  | [d1, d2, d3] => { results := [.lit (.bool true)], args := [d1, d2, d3] }
  | _ => none }
def guardTwoRow : OpenClaim := { program := "ytbbfjlnkhenbiaagreatdoor", sum := "aa531a6c5b61b45d8569dbeb38e2136055a13109b843c7986571eefcb72fc65c", func := "lockbox/lockboxlaw24.GuardTwo", spec := "guardTwo", inPlace := ["internal/reflectlite.ValueOf", "(internal/reflectlite.Value).Type", "(internal/reflectlite.Value).IsNil", "internal/reflectlite.TypeOf", "(internal/reflectlite.Value).Elem", "(internal/reflectlite.Value).Set"], unfollowed := true, recurses := true, named := ["errors.errorType"], apart := false, laid := [("errors.errorType", laid_errors_errorType)] }
def GuardTwoSaid : Prop := guardTwoRow.holds Tryz.pinned (OpenSpec.ofChange guardTwoSpec)

/-- ITS FALSE NEIGHBOUR: 'it returns false'. Refute it at one input. -/
def guardTwoWrong : ChangeSpec := { name := "guardTwo", fn := fun _ => fun
  | [d1, d2, d3] => { results := [.lit (.bool false)], args := [d1, d2, d3] }
  | _ => none }
def GuardTwoWrongFalsely : Prop := guardTwoRow.holds Tryz.pinned (OpenSpec.ofChange guardTwoWrong)

/-- 'lockboxlaw15.OffsetNaturals': WHATEVER THE INPUT: true; the input reads as it did. -/
def offsetNaturalsSpec : ChangeSpec := { name := "offsetNaturals", fn := fun _ => fun
  | [d1, d2, d3, d4, d5] => { results := [.lit (.bool true)], args := [d1, d2, d3, d4, d5] }
  | _ => none }
def offsetNaturalsRow : OpenClaim := { program := "ytbbfjlnkhenbiaagreatdoor", sum := "aa531a6c5b61b45d8569dbeb38e2136055a13109b843c7986571eefcb72fc65c", func := "lockbox/lockboxlaw15.OffsetNaturals", spec := "offsetNaturals", inPlace := ["internal/bytealg.IndexByteString", "internal/abi.NoEscape", "internal/reflectlite.ValueOf", "(internal/reflectlite.Value).Type", "(internal/reflectlite.Value).IsNil", "internal/reflectlite.TypeOf", "(internal/reflectlite.Value).Elem", "(internal/reflectlite.Value).Set"], unfollowed := true, recurses := true, named := ["errors.errorType"], apart := false, laid := [("errors.errorType", laid_errors_errorType)] }
def OffsetNaturalsSaid : Prop := offsetNaturalsRow.holds Tryz.pinned (OpenSpec.ofChange offsetNaturalsSpec)

/-- ITS FALSE NEIGHBOUR: 'it returns false'. Refute it at one input. -/
def offsetNaturalsWrong : ChangeSpec := { name := "offsetNaturals", fn := fun _ => fun
  | [d1, d2, d3, d4, d5] => { results := [.lit (.bool false)], args := [d1, d2, d3, d4, d5] }
  | _ => none }
def OffsetNaturalsWrongFalsely : Prop := offsetNaturalsRow.holds Tryz.pinned (OpenSpec.ofChange offsetNaturalsWrong)

/-- 'lockboxlaw15.OffsetOfs': WHATEVER THE INPUT: true; the input reads as it did. -/
def offsetOfsSpec : ChangeSpec := { name := "offsetOfs", fn := fun _ => fun
  | [d1, d2, d3, d4] => { results := [.lit (.bool true)], args := [d1, d2, d3, d4] }
  | _ => none }
def offsetOfsRow : OpenClaim := { program := "ytbbfjlnkhenbiaagreatdoor", sum := "aa531a6c5b61b45d8569dbeb38e2136055a13109b843c7986571eefcb72fc65c", func := "lockbox/lockboxlaw15.OffsetOfs", spec := "offsetOfs", inPlace := ["internal/bytealg.IndexByteString", "internal/abi.NoEscape", "internal/reflectlite.ValueOf", "(internal/reflectlite.Value).Type", "(internal/reflectlite.Value).IsNil", "internal/reflectlite.TypeOf", "(internal/reflectlite.Value).Elem", "(internal/reflectlite.Value).Set"], unfollowed := true, recurses := true, named := ["errors.errorType"], apart := false, laid := [("errors.errorType", laid_errors_errorType)] }
def OffsetOfsSaid : Prop := offsetOfsRow.holds Tryz.pinned (OpenSpec.ofChange offsetOfsSpec)

/-- ITS FALSE NEIGHBOUR: 'it returns false'. Refute it at one input. -/
def offsetOfsWrong : ChangeSpec := { name := "offsetOfs", fn := fun _ => fun
  | [d1, d2, d3, d4] => { results := [.lit (.bool false)], args := [d1, d2, d3, d4] }
  | _ => none }
def OffsetOfsWrongFalsely : Prop := offsetOfsRow.holds Tryz.pinned (OpenSpec.ofChange offsetOfsWrong)

/-- 'lockboxlaw15.OffsetVerifies': WHATEVER THE INPUT: true; the input reads as it did. -/
def offsetVerifiesSpec : ChangeSpec := { name := "offsetVerifies", fn := fun _ => fun
  | [d1, d2, d3, d4, d5] => { results := [.lit (.bool true)], args := [d1, d2, d3, d4, d5] }
  | _ => none }
def offsetVerifiesRow : OpenClaim := { program := "ytbbfjlnkhenbiaagreatdoor", sum := "aa531a6c5b61b45d8569dbeb38e2136055a13109b843c7986571eefcb72fc65c", func := "lockbox/lockboxlaw15.OffsetVerifies", spec := "offsetVerifies", inPlace := ["internal/bytealg.IndexByteString", "internal/abi.NoEscape", "internal/reflectlite.ValueOf", "(internal/reflectlite.Value).Type", "(internal/reflectlite.Value).IsNil", "internal/reflectlite.TypeOf", "(internal/reflectlite.Value).Elem", "(internal/reflectlite.Value).Set"], unfollowed := true, recurses := true, named := ["errors.errorType"], apart := false, laid := [("errors.errorType", laid_errors_errorType)] }
def OffsetVerifiesSaid : Prop := offsetVerifiesRow.holds Tryz.pinned (OpenSpec.ofChange offsetVerifiesSpec)

/-- ITS FALSE NEIGHBOUR: 'it returns false'. Refute it at one input. -/
def offsetVerifiesWrong : ChangeSpec := { name := "offsetVerifies", fn := fun _ => fun
  | [d1, d2, d3, d4, d5] => { results := [.lit (.bool false)], args := [d1, d2, d3, d4, d5] }
  | _ => none }
def OffsetVerifiesWrongFalsely : Prop := offsetVerifiesRow.holds Tryz.pinned (OpenSpec.ofChange offsetVerifiesWrong)

/- THE SECOND FORM. 'bulk': how many values and letters a reading holds, each counted each time it is reached (what is shared counts as often as it is met; a slice's spare places count too). A statement '..UptoSaid' is the law's where the arguments, and the package variables that the reading takes, are together of bulk at most 1048576: NARROWER than '..Said'. Prove '..Said' where nothing that the law and all that it calls make is longer than what came in: it says more and counts as full. Else prove '..UptoSaid'. A law counts once. -/
mutual
def uptoBulk {H : Type} : DataW H → Nat
  | .lit (.string bytes) => bytes.length + 1
  | .lit _ => 1
  | .nil => 1
  | .ptr d => uptoBulk d + 1
  | .slice elems spare => uptoBulkAll elems + uptoBulkAll spare + 1
  | .agg parts => uptoBulkAll parts + 1
  | .iface _ d => uptoBulk d + 1
  | .map entries => uptoBulkEntries entries + 1
  | .held _ => 1
def uptoBulkAll {H : Type} : List (DataW H) → Nat
  | [] => 0
  | d :: r => uptoBulk d + uptoBulkAll r
def uptoBulkEntries {H : Type} : List (Lit × DataW H) → Nat
  | [] => 0
  | x :: r => uptoBulkEntry x + uptoBulkEntries r
def uptoBulkEntry {H : Type} : Lit × DataW H → Nat
  | (.string bytes, d) => bytes.length + uptoBulk d + 1
  | (_, d) => uptoBulk d + 1
 end
def uptoSmall : (H : Type) → List (DataW H) → Bool := fun _ ds => decide (uptoBulkAll ds ≤ 1048576)
def OpenSpec.upto (s : _root_.Go.ChangeSpec) : _root_.Go.OpenSpec := { _root_.Go.OpenSpec.ofChange s with cond := some uptoSmall }

/-- 'lockboxlaw06.ModeDoes', WHERE WHAT IT READS IS OF BULK AT MOST 1048576: true; the input reads as it did. -/
def modeDoesUptoRow : OpenClaim := { program := "ytbbfjlnkhenbiaagreatdoor", sum := "aa531a6c5b61b45d8569dbeb38e2136055a13109b843c7986571eefcb72fc65c", func := "lockbox/lockboxlaw06.ModeDoes", spec := "modeDoes", inPlace := ["internal/reflectlite.ValueOf", "(internal/reflectlite.Value).Type", "(internal/reflectlite.Value).IsNil", "internal/reflectlite.TypeOf", "(internal/reflectlite.Value).Elem", "(internal/reflectlite.Value).Set"], unfollowed := true, recurses := true, named := ["errors.errorType"], apart := false, laid := [("errors.errorType", laid_errors_errorType)], narrowed := true }
def ModeDoesUptoSaid : Prop := modeDoesUptoRow.holds Tryz.pinned (OpenSpec.upto modeDoesSpec)

/-- 'lockboxlaw07.MacCmacs', WHERE WHAT IT READS IS OF BULK AT MOST 1048576: true; the input reads as it did. -/
def macCmacsUptoRow : OpenClaim := { program := "ytbbfjlnkhenbiaagreatdoor", sum := "aa531a6c5b61b45d8569dbeb38e2136055a13109b843c7986571eefcb72fc65c", func := "lockbox/lockboxlaw07.MacCmacs", spec := "macCmacs", inPlace := ["internal/reflectlite.ValueOf", "(internal/reflectlite.Value).Type", "(internal/reflectlite.Value).IsNil", "internal/reflectlite.TypeOf", "(internal/reflectlite.Value).Elem", "(internal/reflectlite.Value).Set"], unfollowed := true, recurses := true, named := ["errors.errorType"], apart := false, laid := [("errors.errorType", laid_errors_errorType)], narrowed := true }
def MacCmacsUptoSaid : Prop := macCmacsUptoRow.holds Tryz.pinned (OpenSpec.upto macCmacsSpec)

/-- 'lockboxlaw24.GuardTwo', WHERE WHAT IT READS IS OF BULK AT MOST 1048576: true; the input reads as it did. -/
def guardTwoUptoRow : OpenClaim := { program := "ytbbfjlnkhenbiaagreatdoor", sum := "aa531a6c5b61b45d8569dbeb38e2136055a13109b843c7986571eefcb72fc65c", func := "lockbox/lockboxlaw24.GuardTwo", spec := "guardTwo", inPlace := ["internal/reflectlite.ValueOf", "(internal/reflectlite.Value).Type", "(internal/reflectlite.Value).IsNil", "internal/reflectlite.TypeOf", "(internal/reflectlite.Value).Elem", "(internal/reflectlite.Value).Set"], unfollowed := true, recurses := true, named := ["errors.errorType"], apart := false, laid := [("errors.errorType", laid_errors_errorType)], narrowed := true }
def GuardTwoUptoSaid : Prop := guardTwoUptoRow.holds Tryz.pinned (OpenSpec.upto guardTwoSpec)

/-- 'lockboxlaw15.OffsetNaturals', WHERE WHAT IT READS IS OF BULK AT MOST 1048576: true; the input reads as it did. -/
def offsetNaturalsUptoRow : OpenClaim := { program := "ytbbfjlnkhenbiaagreatdoor", sum := "aa531a6c5b61b45d8569dbeb38e2136055a13109b843c7986571eefcb72fc65c", func := "lockbox/lockboxlaw15.OffsetNaturals", spec := "offsetNaturals", inPlace := ["internal/bytealg.IndexByteString", "internal/abi.NoEscape", "internal/reflectlite.ValueOf", "(internal/reflectlite.Value).Type", "(internal/reflectlite.Value).IsNil", "internal/reflectlite.TypeOf", "(internal/reflectlite.Value).Elem", "(internal/reflectlite.Value).Set"], unfollowed := true, recurses := true, named := ["errors.errorType"], apart := false, laid := [("errors.errorType", laid_errors_errorType)], narrowed := true }
def OffsetNaturalsUptoSaid : Prop := offsetNaturalsUptoRow.holds Tryz.pinned (OpenSpec.upto offsetNaturalsSpec)

/-- 'lockboxlaw15.OffsetOfs', WHERE WHAT IT READS IS OF BULK AT MOST 1048576: true; the input reads as it did. -/
def offsetOfsUptoRow : OpenClaim := { program := "ytbbfjlnkhenbiaagreatdoor", sum := "aa531a6c5b61b45d8569dbeb38e2136055a13109b843c7986571eefcb72fc65c", func := "lockbox/lockboxlaw15.OffsetOfs", spec := "offsetOfs", inPlace := ["internal/bytealg.IndexByteString", "internal/abi.NoEscape", "internal/reflectlite.ValueOf", "(internal/reflectlite.Value).Type", "(internal/reflectlite.Value).IsNil", "internal/reflectlite.TypeOf", "(internal/reflectlite.Value).Elem", "(internal/reflectlite.Value).Set"], unfollowed := true, recurses := true, named := ["errors.errorType"], apart := false, laid := [("errors.errorType", laid_errors_errorType)], narrowed := true }
def OffsetOfsUptoSaid : Prop := offsetOfsUptoRow.holds Tryz.pinned (OpenSpec.upto offsetOfsSpec)

/-- 'lockboxlaw15.OffsetVerifies', WHERE WHAT IT READS IS OF BULK AT MOST 1048576: true; the input reads as it did. -/
def offsetVerifiesUptoRow : OpenClaim := { program := "ytbbfjlnkhenbiaagreatdoor", sum := "aa531a6c5b61b45d8569dbeb38e2136055a13109b843c7986571eefcb72fc65c", func := "lockbox/lockboxlaw15.OffsetVerifies", spec := "offsetVerifies", inPlace := ["internal/bytealg.IndexByteString", "internal/abi.NoEscape", "internal/reflectlite.ValueOf", "(internal/reflectlite.Value).Type", "(internal/reflectlite.Value).IsNil", "internal/reflectlite.TypeOf", "(internal/reflectlite.Value).Elem", "(internal/reflectlite.Value).Set"], unfollowed := true, recurses := true, named := ["errors.errorType"], apart := false, laid := [("errors.errorType", laid_errors_errorType)], narrowed := true }
def OffsetVerifiesUptoSaid : Prop := offsetVerifiesUptoRow.holds Tryz.pinned (OpenSpec.upto offsetVerifiesSpec)

end Rows
end Go.Proofs.YtbbfjlnkhenbiaaGreatDoor
