/-
  No cell of these rows narrows 'for every input' (looked for: loops, veiled, ifaces, maps, wideKeys, modest, calm, conditions, laid).
  DERIVED. THE GIVEN ROWS OF THIS SEAT. 5 by the template 'for every input the law returns true; each argument reads behind the call as it read before'; 0 by the template 'total and deterministic' (their statements: YtlenlidonlglfaaTotals.lean).
  GIVEN WITH THE SEED: the statements are not yours to turn. If you find one false, say at which input.
  Laid BY PROGRAM, IN A SANDBOX (cutbox-rows.mjs): the forced cells as the released guide's own fill.sh prints them over the translation 5b1e5b1ef54788ba… (all of the seat's roots in one cut). By AI agents, Wed Nov 11 2026. No macro, syntax, notation, axiom, sorry.
-/
import Derived.Test.YtlenlidonlglfaaChecked
import GoSem.Claim
import GoSem.ClaimJoined
import GoSem.ClaimMapViews
import Derived.JoinedTies
import Derived.KernelRfl
namespace Go.Proofs.Ytlenlidonlglfaa
/- THE CELL 'sum', in the pinned program and in every row, IS THE sha256 OF THE DUMP (.gsa) THAT YtlenlidonlglfaaProg.lean LOADS. Nothing in Lean hashes anything: it is a label: what it is worth is what the hold of that sum in a sandbox is worth. -/
noncomputable def Try.pinned : Pinned := { name := "ytlenlidonlglfaa", sum := "5b1e5b1ef54788ba3cf47de3e90f2af1f4df92c74615877699c341dc9d32d53b", checked := Try.checked }
namespace Rows
def none {H : Type} : Left H := { results := [], args := [] }

/-- 'lockboxlaw01.GfProducts': WHATEVER THE INPUT: true; the input reads as it did. -/
def gfProductsSpec : ChangeSpec := { name := "gfProducts", fn := fun _ => fun
  | [d1, d2] => { results := [.lit (.bool true)], args := [d1, d2] }
  | _ => none }
def gfProductsRow : OpenClaim := { program := "ytlenlidonlglfaa", sum := "5b1e5b1ef54788ba3cf47de3e90f2af1f4df92c74615877699c341dc9d32d53b", func := "lockbox/lockboxlaw01.GfProducts", spec := "gfProducts", apart := false }
def GfProductsSaid : Prop := gfProductsRow.holds Try.pinned (OpenSpec.ofChange gfProductsSpec)

/-- ITS FALSE NEIGHBOUR: 'it returns false'. Refute it at one input. -/
def gfProductsWrong : ChangeSpec := { name := "gfProducts", fn := fun _ => fun
  | [d1, d2] => { results := [.lit (.bool false)], args := [d1, d2] }
  | _ => none }
def GfProductsWrongFalsely : Prop := gfProductsRow.holds Try.pinned (OpenSpec.ofChange gfProductsWrong)

/-- 'lockboxlaw01.GfBoxes': WHATEVER THE INPUT: true; the input reads as it did. -/
def gfBoxesSpec : ChangeSpec := { name := "gfBoxes", fn := fun _ => fun
  | [d] => { results := [.lit (.bool true)], args := [d] }
  | _ => none }
def gfBoxesRow : OpenClaim := { program := "ytlenlidonlglfaa", sum := "5b1e5b1ef54788ba3cf47de3e90f2af1f4df92c74615877699c341dc9d32d53b", func := "lockbox/lockboxlaw01.GfBoxes", spec := "gfBoxes", apart := false }
def GfBoxesSaid : Prop := gfBoxesRow.holds Try.pinned (OpenSpec.ofChange gfBoxesSpec)

/-- ITS FALSE NEIGHBOUR: 'it returns false'. Refute it at one input. -/
def gfBoxesWrong : ChangeSpec := { name := "gfBoxes", fn := fun _ => fun
  | [d] => { results := [.lit (.bool false)], args := [d] }
  | _ => none }
def GfBoxesWrongFalsely : Prop := gfBoxesRow.holds Try.pinned (OpenSpec.ofChange gfBoxesWrong)

/-- 'lockboxlaw01.GfField': WHATEVER THE INPUT: true; the input reads as it did. -/
def gfFieldSpec : ChangeSpec := { name := "gfField", fn := fun _ => fun
  | [d1, d2, d3] => { results := [.lit (.bool true)], args := [d1, d2, d3] }
  | _ => none }
def gfFieldRow : OpenClaim := { program := "ytlenlidonlglfaa", sum := "5b1e5b1ef54788ba3cf47de3e90f2af1f4df92c74615877699c341dc9d32d53b", func := "lockbox/lockboxlaw01.GfField", spec := "gfField", apart := false }
def GfFieldSaid : Prop := gfFieldRow.holds Try.pinned (OpenSpec.ofChange gfFieldSpec)

/-- ITS FALSE NEIGHBOUR: 'it returns false'. Refute it at one input. -/
def gfFieldWrong : ChangeSpec := { name := "gfField", fn := fun _ => fun
  | [d1, d2, d3] => { results := [.lit (.bool false)], args := [d1, d2, d3] }
  | _ => none }
def GfFieldWrongFalsely : Prop := gfFieldRow.holds Try.pinned (OpenSpec.ofChange gfFieldWrong)

/-- 'lockboxlaw01.GfUndoes': WHATEVER THE INPUT: true; the input reads as it did. -/
def gfUndoesSpec : ChangeSpec := { name := "gfUndoes", fn := fun _ => fun
  | [d] => { results := [.lit (.bool true)], args := [d] }
  | _ => none }
def gfUndoesRow : OpenClaim := { program := "ytlenlidonlglfaa", sum := "5b1e5b1ef54788ba3cf47de3e90f2af1f4df92c74615877699c341dc9d32d53b", func := "lockbox/lockboxlaw01.GfUndoes", spec := "gfUndoes", apart := false }
def GfUndoesSaid : Prop := gfUndoesRow.holds Try.pinned (OpenSpec.ofChange gfUndoesSpec)

/-- ITS FALSE NEIGHBOUR: 'it returns false'. Refute it at one input. -/
def gfUndoesWrong : ChangeSpec := { name := "gfUndoes", fn := fun _ => fun
  | [d] => { results := [.lit (.bool false)], args := [d] }
  | _ => none }
def GfUndoesWrongFalsely : Prop := gfUndoesRow.holds Try.pinned (OpenSpec.ofChange gfUndoesWrong)

/-- 'lockboxlaw01.GfSquares': WHATEVER THE INPUT: true; the input reads as it did. -/
def gfSquaresSpec : ChangeSpec := { name := "gfSquares", fn := fun _ => fun
  | [d1, d2] => { results := [.lit (.bool true)], args := [d1, d2] }
  | _ => none }
def gfSquaresRow : OpenClaim := { program := "ytlenlidonlglfaa", sum := "5b1e5b1ef54788ba3cf47de3e90f2af1f4df92c74615877699c341dc9d32d53b", func := "lockbox/lockboxlaw01.GfSquares", spec := "gfSquares", apart := false }
def GfSquaresSaid : Prop := gfSquaresRow.holds Try.pinned (OpenSpec.ofChange gfSquaresSpec)

/-- ITS FALSE NEIGHBOUR: 'it returns false'. Refute it at one input. -/
def gfSquaresWrong : ChangeSpec := { name := "gfSquares", fn := fun _ => fun
  | [d1, d2] => { results := [.lit (.bool false)], args := [d1, d2] }
  | _ => none }
def GfSquaresWrongFalsely : Prop := gfSquaresRow.holds Try.pinned (OpenSpec.ofChange gfSquaresWrong)

/- THE SECOND FORM. 'bulk': how many values and letters a reading holds, each counted each time it is reached (what is shared counts as often as it is met; a slice's spare places count too). A statement '..UptoSaid' is the law's where the arguments, and the package variables that the reading takes, are together of bulk at most 1048576: NARROWER than '..Said'. Prove '..Said' where nothing that the law and all that it calls make is longer than what came in: it says more and counts as full. Else prove '..UptoSaid'. A law counts once. -/
mutual
def uptoBulk {H : Type} : DataW H → Nat
  | .lit (.string bytes) => bytes.length + 1
  | .lit _ => 1
  | .nil => 1
  | .ptr d => uptoBulk d + 1
  | .slice elems spare => uptoBulkAll elems + uptoBulkAll spare + 1
  | .agg parts => uptoBulkAll parts + 1
  | .iface _ d => uptoBulk d + 1
  | .map entries => uptoBulkEntries entries + 1
  | .held _ => 1
def uptoBulkAll {H : Type} : List (DataW H) → Nat
  | [] => 0
  | d :: r => uptoBulk d + uptoBulkAll r
def uptoBulkEntries {H : Type} : List (Lit × DataW H) → Nat
  | [] => 0
  | x :: r => uptoBulkEntry x + uptoBulkEntries r
def uptoBulkEntry {H : Type} : Lit × DataW H → Nat
  | (.string bytes, d) => bytes.length + uptoBulk d + 1
  | (_, d) => uptoBulk d + 1
 end
def uptoSmall : (H : Type) → List (DataW H) → Bool := fun _ ds => decide (uptoBulkAll ds ≤ 1048576)
def OpenSpec.upto (s : _root_.Go.ChangeSpec) : _root_.Go.OpenSpec := { _root_.Go.OpenSpec.ofChange s with cond := some uptoSmall }

/-- 'lockboxlaw01.GfProducts', WHERE WHAT IT READS IS OF BULK AT MOST 1048576: true; the input reads as it did. -/
def gfProductsUptoRow : OpenClaim := { program := "ytlenlidonlglfaa", sum := "5b1e5b1ef54788ba3cf47de3e90f2af1f4df92c74615877699c341dc9d32d53b", func := "lockbox/lockboxlaw01.GfProducts", spec := "gfProducts", apart := false, narrowed := true }
def GfProductsUptoSaid : Prop := gfProductsUptoRow.holds Try.pinned (OpenSpec.upto gfProductsSpec)

/-- 'lockboxlaw01.GfBoxes', WHERE WHAT IT READS IS OF BULK AT MOST 1048576: true; the input reads as it did. -/
def gfBoxesUptoRow : OpenClaim := { program := "ytlenlidonlglfaa", sum := "5b1e5b1ef54788ba3cf47de3e90f2af1f4df92c74615877699c341dc9d32d53b", func := "lockbox/lockboxlaw01.GfBoxes", spec := "gfBoxes", apart := false, narrowed := true }
def GfBoxesUptoSaid : Prop := gfBoxesUptoRow.holds Try.pinned (OpenSpec.upto gfBoxesSpec)

/-- 'lockboxlaw01.GfField', WHERE WHAT IT READS IS OF BULK AT MOST 1048576: true; the input reads as it did. -/
def gfFieldUptoRow : OpenClaim := { program := "ytlenlidonlglfaa", sum := "5b1e5b1ef54788ba3cf47de3e90f2af1f4df92c74615877699c341dc9d32d53b", func := "lockbox/lockboxlaw01.GfField", spec := "gfField", apart := false, narrowed := true }
def GfFieldUptoSaid : Prop := gfFieldUptoRow.holds Try.pinned (OpenSpec.upto gfFieldSpec)

/-- 'lockboxlaw01.GfUndoes', WHERE WHAT IT READS IS OF BULK AT MOST 1048576: true; the input reads as it did. -/
def gfUndoesUptoRow : OpenClaim := { program := "ytlenlidonlglfaa", sum := "5b1e5b1ef54788ba3cf47de3e90f2af1f4df92c74615877699c341dc9d32d53b", func := "lockbox/lockboxlaw01.GfUndoes", spec := "gfUndoes", apart := false, narrowed := true }
def GfUndoesUptoSaid : Prop := gfUndoesUptoRow.holds Try.pinned (OpenSpec.upto gfUndoesSpec)

/-- 'lockboxlaw01.GfSquares', WHERE WHAT IT READS IS OF BULK AT MOST 1048576: true; the input reads as it did. -/
def gfSquaresUptoRow : OpenClaim := { program := "ytlenlidonlglfaa", sum := "5b1e5b1ef54788ba3cf47de3e90f2af1f4df92c74615877699c341dc9d32d53b", func := "lockbox/lockboxlaw01.GfSquares", spec := "gfSquares", apart := false, narrowed := true }
def GfSquaresUptoSaid : Prop := gfSquaresUptoRow.holds Try.pinned (OpenSpec.upto gfSquaresSpec)

end Rows
end Go.Proofs.Ytlenlidonlglfaa
