/- api.Code and api.At of an error. -/
import Derived.Test.YtbbfjlnkhenbiaaKB6
import Derived.OneCell
set_option linter.unusedVariables false
set_option linter.unusedSimpArgs false
namespace Go.Proofs.Ytbbfjlnkhenbiaa
open Go.RowKit Go.Extern.Stop Go.Stop Go.Extern Lk
theorem cell_new {w w4 : World} {v : Value} {T : TypeId} (hL : Below (w.alloc (.cells #[v] T)).heap.size (w.alloc (.cells #[v] T)) w4) (u : Value) : (w4.setCell ⟨w.heap.size, 0, none⟩ u).cell? ⟨w.heap.size, 0, none⟩ = some u := by
  have c4 := hL.block w.heap.size (by simp)
  have c5 : (w.alloc (.cells #[v] T)).heap[w.heap.size]? = some (.cells #[v] T (0, 0)) := heap_alloc_new w _
  rw [c5] at c4
  exact cell_of_one (one_setCell c4)
theorem below_set {w w1 w4 : World} (hb : Below w.heap.size w w1) (hL : Below w1.heap.size w1 w4) (u : Value) : Below w.heap.size w (w4.setCell ⟨w.heap.size, 0, none⟩ u) :=
  (below_mr hb hL hb.size).setCell (Nat.le_refl _) _
end Go.Proofs.Ytbbfjlnkhenbiaa
