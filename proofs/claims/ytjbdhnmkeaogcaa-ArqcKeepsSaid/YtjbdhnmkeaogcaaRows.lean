/-
  No cell of these rows narrows 'for every input' (looked for: loops, veiled, ifaces, maps, wideKeys, modest, calm, conditions, laid).
  DERIVED. THE GIVEN ROWS OF THIS SEAT. 7 by the template 'for every input the law returns true; each argument reads behind the call as it read before'; 0 by the template 'total and deterministic' (their statements: YtjbdhnmkeaogcaaTotals.lean).
  GIVEN WITH THE SEED: the statements are not yours to turn. If you find one false, say at which input.
  Laid BY PROGRAM, IN A SANDBOX (cutbox-rows.mjs): the forced cells as the released guide's own fill.sh prints them over the translation 8afab715d82aff93… (all of the seat's roots in one cut). By AI agents, Wed Nov 11 2026. No macro, syntax, notation, axiom, sorry.
-/
import Derived.Test.YtjbdhnmkeaogcaaChecked
import GoSem.Claim
import GoSem.ClaimJoined
import GoSem.ClaimMapViews
import Derived.JoinedTies
import Derived.KernelRfl
namespace Go.Proofs.Ytjbdhnmkeaogcaa
/- THE CELL 'sum', in the pinned program and in every row, IS THE sha256 OF THE DUMP (.gsa) THAT YtjbdhnmkeaogcaaProg.lean LOADS. Nothing in Lean hashes anything: it is a label: what it is worth is what the hold of that sum in a sandbox is worth. -/
noncomputable def Try.pinned : Pinned := { name := "ytjbdhnmkeaogcaa", sum := "8afab715d82aff93f99cfd451a7a896c20be21ad406180c22314e640b00ee249", checked := Try.checked }
namespace Rows
def none {H : Type} : Left H := { results := [], args := [] }

/-- 'lockboxlaw07.MacParts': WHATEVER THE INPUT: true; the input reads as it did. -/
def macPartsSpec : ChangeSpec := { name := "macParts", fn := fun _ => fun
  | [d1, d2, d3, d4] => { results := [.lit (.bool true)], args := [d1, d2, d3, d4] }
  | _ => none }
def macPartsRow : OpenClaim := { program := "ytjbdhnmkeaogcaa", sum := "8afab715d82aff93f99cfd451a7a896c20be21ad406180c22314e640b00ee249", func := "lockbox/lockboxlaw07.MacParts", spec := "macParts", unfollowed := true, recurses := true, apart := false }
def MacPartsSaid : Prop := macPartsRow.holds Try.pinned (OpenSpec.ofChange macPartsSpec)

/-- ITS FALSE NEIGHBOUR: 'it returns false'. Refute it at one input. -/
def macPartsWrong : ChangeSpec := { name := "macParts", fn := fun _ => fun
  | [d1, d2, d3, d4] => { results := [.lit (.bool false)], args := [d1, d2, d3, d4] }
  | _ => none }
def MacPartsWrongFalsely : Prop := macPartsRow.holds Try.pinned (OpenSpec.ofChange macPartsWrong)

/-- 'lockboxlaw07.MacKeeps': WHATEVER THE INPUT: true; the input reads as it did. -/
def macKeepsSpec : ChangeSpec := { name := "macKeeps", fn := fun _ => fun
  | [d1, d2] => { results := [.lit (.bool true)], args := [d1, d2] }
  | _ => none }
def macKeepsRow : OpenClaim := { program := "ytjbdhnmkeaogcaa", sum := "8afab715d82aff93f99cfd451a7a896c20be21ad406180c22314e640b00ee249", func := "lockbox/lockboxlaw07.MacKeeps", spec := "macKeeps", unfollowed := true, recurses := true, apart := false }
def MacKeepsSaid : Prop := macKeepsRow.holds Try.pinned (OpenSpec.ofChange macKeepsSpec)

/-- ITS FALSE NEIGHBOUR: 'it returns false'. Refute it at one input. -/
def macKeepsWrong : ChangeSpec := { name := "macKeeps", fn := fun _ => fun
  | [d1, d2] => { results := [.lit (.bool false)], args := [d1, d2] }
  | _ => none }
def MacKeepsWrongFalsely : Prop := macKeepsRow.holds Try.pinned (OpenSpec.ofChange macKeepsWrong)

/-- 'lockboxlaw07.MacPads': WHATEVER THE INPUT: true; the input reads as it did. -/
def macPadsSpec : ChangeSpec := { name := "macPads", fn := fun _ => fun
  | [d1, d2] => { results := [.lit (.bool true)], args := [d1, d2] }
  | _ => none }
def macPadsRow : OpenClaim := { program := "ytjbdhnmkeaogcaa", sum := "8afab715d82aff93f99cfd451a7a896c20be21ad406180c22314e640b00ee249", func := "lockbox/lockboxlaw07.MacPads", spec := "macPads", unfollowed := true, recurses := true, apart := false }
def MacPadsSaid : Prop := macPadsRow.holds Try.pinned (OpenSpec.ofChange macPadsSpec)

/-- ITS FALSE NEIGHBOUR: 'it returns false'. Refute it at one input. -/
def macPadsWrong : ChangeSpec := { name := "macPads", fn := fun _ => fun
  | [d1, d2] => { results := [.lit (.bool false)], args := [d1, d2] }
  | _ => none }
def MacPadsWrongFalsely : Prop := macPadsRow.holds Try.pinned (OpenSpec.ofChange macPadsWrong)

/-- 'lockboxlaw23.AuditChain': WHATEVER THE INPUT: true; the input reads as it did. -/
def auditChainSpec : ChangeSpec := { name := "auditChain", fn := fun _ => fun
  | [d1, d2, d3] => { results := [.lit (.bool true)], args := [d1, d2, d3] }
  | _ => none }
def auditChainRow : OpenClaim := { program := "ytjbdhnmkeaogcaa", sum := "8afab715d82aff93f99cfd451a7a896c20be21ad406180c22314e640b00ee249", func := "lockbox/lockboxlaw23.AuditChain", spec := "auditChain", unfollowed := true, recurses := true, apart := false }
def AuditChainSaid : Prop := auditChainRow.holds Try.pinned (OpenSpec.ofChange auditChainSpec)

/-- ITS FALSE NEIGHBOUR: 'it returns false'. Refute it at one input. -/
def auditChainWrong : ChangeSpec := { name := "auditChain", fn := fun _ => fun
  | [d1, d2, d3] => { results := [.lit (.bool false)], args := [d1, d2, d3] }
  | _ => none }
def AuditChainWrongFalsely : Prop := auditChainRow.holds Try.pinned (OpenSpec.ofChange auditChainWrong)

/-- 'lockboxlaw23.AuditKeeps': WHATEVER THE INPUT: true; the input reads as it did. -/
def auditKeepsSpec : ChangeSpec := { name := "auditKeeps", fn := fun _ => fun
  | [d1, d2, d3, d4] => { results := [.lit (.bool true)], args := [d1, d2, d3, d4] }
  | _ => none }
def auditKeepsRow : OpenClaim := { program := "ytjbdhnmkeaogcaa", sum := "8afab715d82aff93f99cfd451a7a896c20be21ad406180c22314e640b00ee249", func := "lockbox/lockboxlaw23.AuditKeeps", spec := "auditKeeps", unfollowed := true, recurses := true, apart := false }
def AuditKeepsSaid : Prop := auditKeepsRow.holds Try.pinned (OpenSpec.ofChange auditKeepsSpec)

/-- ITS FALSE NEIGHBOUR: 'it returns false'. Refute it at one input. -/
def auditKeepsWrong : ChangeSpec := { name := "auditKeeps", fn := fun _ => fun
  | [d1, d2, d3, d4] => { results := [.lit (.bool false)], args := [d1, d2, d3, d4] }
  | _ => none }
def AuditKeepsWrongFalsely : Prop := auditKeepsRow.holds Try.pinned (OpenSpec.ofChange auditKeepsWrong)

/-- 'lockboxlaw19.ArqcUnlike': WHATEVER THE INPUT: true; the input reads as it did. -/
def arqcUnlikeSpec : ChangeSpec := { name := "arqcUnlike", fn := fun _ => fun
  | [d1, d2, d3, d4, d5] => { results := [.lit (.bool true)], args := [d1, d2, d3, d4, d5] }
  | _ => none }
def arqcUnlikeRow : OpenClaim := { program := "ytjbdhnmkeaogcaa", sum := "8afab715d82aff93f99cfd451a7a896c20be21ad406180c22314e640b00ee249", func := "lockbox/lockboxlaw19.ArqcUnlike", spec := "arqcUnlike", unfollowed := true, recurses := true, apart := false }
def ArqcUnlikeSaid : Prop := arqcUnlikeRow.holds Try.pinned (OpenSpec.ofChange arqcUnlikeSpec)

/-- ITS FALSE NEIGHBOUR: 'it returns false'. Refute it at one input. -/
def arqcUnlikeWrong : ChangeSpec := { name := "arqcUnlike", fn := fun _ => fun
  | [d1, d2, d3, d4, d5] => { results := [.lit (.bool false)], args := [d1, d2, d3, d4, d5] }
  | _ => none }
def ArqcUnlikeWrongFalsely : Prop := arqcUnlikeRow.holds Try.pinned (OpenSpec.ofChange arqcUnlikeWrong)

/-- 'lockboxlaw19.ArqcKeeps': WHATEVER THE INPUT: true; the input reads as it did. -/
def arqcKeepsSpec : ChangeSpec := { name := "arqcKeeps", fn := fun _ => fun
  | [d1, d2, d3] => { results := [.lit (.bool true)], args := [d1, d2, d3] }
  | _ => none }
def arqcKeepsRow : OpenClaim := { program := "ytjbdhnmkeaogcaa", sum := "8afab715d82aff93f99cfd451a7a896c20be21ad406180c22314e640b00ee249", func := "lockbox/lockboxlaw19.ArqcKeeps", spec := "arqcKeeps", unfollowed := true, recurses := true, apart := false }
def ArqcKeepsSaid : Prop := arqcKeepsRow.holds Try.pinned (OpenSpec.ofChange arqcKeepsSpec)

/-- ITS FALSE NEIGHBOUR: 'it returns false'. Refute it at one input. -/
def arqcKeepsWrong : ChangeSpec := { name := "arqcKeeps", fn := fun _ => fun
  | [d1, d2, d3] => { results := [.lit (.bool false)], args := [d1, d2, d3] }
  | _ => none }
def ArqcKeepsWrongFalsely : Prop := arqcKeepsRow.holds Try.pinned (OpenSpec.ofChange arqcKeepsWrong)

/- THE SECOND FORM. 'bulk': how many values and letters a reading holds, each counted each time it is reached (what is shared counts as often as it is met; a slice's spare places count too). A statement '..UptoSaid' is the law's where the arguments, and the package variables that the reading takes, are together of bulk at most 1048576: NARROWER than '..Said'. Prove '..Said' where nothing that the law and all that it calls make is longer than what came in: it says more and counts as full. Else prove '..UptoSaid'. A law counts once. -/
mutual
def uptoBulk {H : Type} : DataW H → Nat
  | .lit (.string bytes) => bytes.length + 1
  | .lit _ => 1
  | .nil => 1
  | .ptr d => uptoBulk d + 1
  | .slice elems spare => uptoBulkAll elems + uptoBulkAll spare + 1
  | .agg parts => uptoBulkAll parts + 1
  | .iface _ d => uptoBulk d + 1
  | .map entries => uptoBulkEntries entries + 1
  | .held _ => 1
def uptoBulkAll {H : Type} : List (DataW H) → Nat
  | [] => 0
  | d :: r => uptoBulk d + uptoBulkAll r
def uptoBulkEntries {H : Type} : List (Lit × DataW H) → Nat
  | [] => 0
  | x :: r => uptoBulkEntry x + uptoBulkEntries r
def uptoBulkEntry {H : Type} : Lit × DataW H → Nat
  | (.string bytes, d) => bytes.length + uptoBulk d + 1
  | (_, d) => uptoBulk d + 1
 end
def uptoSmall : (H : Type) → List (DataW H) → Bool := fun _ ds => decide (uptoBulkAll ds ≤ 1048576)
def OpenSpec.upto (s : _root_.Go.ChangeSpec) : _root_.Go.OpenSpec := { _root_.Go.OpenSpec.ofChange s with cond := some uptoSmall }

/-- 'lockboxlaw07.MacParts', WHERE WHAT IT READS IS OF BULK AT MOST 1048576: true; the input reads as it did. -/
def macPartsUptoRow : OpenClaim := { program := "ytjbdhnmkeaogcaa", sum := "8afab715d82aff93f99cfd451a7a896c20be21ad406180c22314e640b00ee249", func := "lockbox/lockboxlaw07.MacParts", spec := "macParts", unfollowed := true, recurses := true, apart := false, narrowed := true }
def MacPartsUptoSaid : Prop := macPartsUptoRow.holds Try.pinned (OpenSpec.upto macPartsSpec)

/-- 'lockboxlaw07.MacKeeps', WHERE WHAT IT READS IS OF BULK AT MOST 1048576: true; the input reads as it did. -/
def macKeepsUptoRow : OpenClaim := { program := "ytjbdhnmkeaogcaa", sum := "8afab715d82aff93f99cfd451a7a896c20be21ad406180c22314e640b00ee249", func := "lockbox/lockboxlaw07.MacKeeps", spec := "macKeeps", unfollowed := true, recurses := true, apart := false, narrowed := true }
def MacKeepsUptoSaid : Prop := macKeepsUptoRow.holds Try.pinned (OpenSpec.upto macKeepsSpec)

/-- 'lockboxlaw07.MacPads', WHERE WHAT IT READS IS OF BULK AT MOST 1048576: true; the input reads as it did. -/
def macPadsUptoRow : OpenClaim := { program := "ytjbdhnmkeaogcaa", sum := "8afab715d82aff93f99cfd451a7a896c20be21ad406180c22314e640b00ee249", func := "lockbox/lockboxlaw07.MacPads", spec := "macPads", unfollowed := true, recurses := true, apart := false, narrowed := true }
def MacPadsUptoSaid : Prop := macPadsUptoRow.holds Try.pinned (OpenSpec.upto macPadsSpec)

/-- 'lockboxlaw23.AuditChain', WHERE WHAT IT READS IS OF BULK AT MOST 1048576: true; the input reads as it did. -/
def auditChainUptoRow : OpenClaim := { program := "ytjbdhnmkeaogcaa", sum := "8afab715d82aff93f99cfd451a7a896c20be21ad406180c22314e640b00ee249", func := "lockbox/lockboxlaw23.AuditChain", spec := "auditChain", unfollowed := true, recurses := true, apart := false, narrowed := true }
def AuditChainUptoSaid : Prop := auditChainUptoRow.holds Try.pinned (OpenSpec.upto auditChainSpec)

/-- 'lockboxlaw23.AuditKeeps', WHERE WHAT IT READS IS OF BULK AT MOST 1048576: true; the input reads as it did. -/
def auditKeepsUptoRow : OpenClaim := { program := "ytjbdhnmkeaogcaa", sum := "8afab715d82aff93f99cfd451a7a896c20be21ad406180c22314e640b00ee249", func := "lockbox/lockboxlaw23.AuditKeeps", spec := "auditKeeps", unfollowed := true, recurses := true, apart := false, narrowed := true }
def AuditKeepsUptoSaid : Prop := auditKeepsUptoRow.holds Try.pinned (OpenSpec.upto auditKeepsSpec)

/-- 'lockboxlaw19.ArqcUnlike', WHERE WHAT IT READS IS OF BULK AT MOST 1048576: true; the input reads as it did. -/
def arqcUnlikeUptoRow : OpenClaim := { program := "ytjbdhnmkeaogcaa", sum := "8afab715d82aff93f99cfd451a7a896c20be21ad406180c22314e640b00ee249", func := "lockbox/lockboxlaw19.ArqcUnlike", spec := "arqcUnlike", unfollowed := true, recurses := true, apart := false, narrowed := true }
def ArqcUnlikeUptoSaid : Prop := arqcUnlikeUptoRow.holds Try.pinned (OpenSpec.upto arqcUnlikeSpec)

/-- 'lockboxlaw19.ArqcKeeps', WHERE WHAT IT READS IS OF BULK AT MOST 1048576: true; the input reads as it did. -/
def arqcKeepsUptoRow : OpenClaim := { program := "ytjbdhnmkeaogcaa", sum := "8afab715d82aff93f99cfd451a7a896c20be21ad406180c22314e640b00ee249", func := "lockbox/lockboxlaw19.ArqcKeeps", spec := "arqcKeeps", unfollowed := true, recurses := true, apart := false, narrowed := true }
def ArqcKeepsUptoSaid : Prop := arqcKeepsUptoRow.holds Try.pinned (OpenSpec.upto arqcKeepsSpec)

end Rows
end Go.Proofs.Ytjbdhnmkeaogcaa
