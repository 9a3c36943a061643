/- Operations on whole rows of bytes, each told with the world behind it as a variable. -/
import Derived.Test.YtlenlidonlglfaaMem
import Derived.Laws.ResultCell
set_option linter.unusedVariables false
set_option linter.unusedSimpArgs false
namespace Lk
open Go Go.RowKit
section
variable {P : Program} {ops : Array Oper} {rest : List Oper} {o : Oper} {a : Act} {w : World} {Q : Exit → Act → World → Prop}
/-- the block g is a row of n cells, of whatever content -/
def Row (w : World) (g : Nat) (T : TypeId) (n : Nat) : Prop := ∃ old : Array Value, w.heap[g]? = some (.cells old T (0, 0)) ∧ old.size = n
theorem Blk.row {w : World} {g T n : Nat} {l : List UInt8} (h : Blk w g T l) (hl : l.length = n) : Row w g T n := ⟨_, h, by rw [Bs_size, hl]⟩
theorem Row.lt {w : World} {g T n : Nat} (h : Row w g T n) : g < w.heap.size := by
  obtain ⟨old, h, _⟩ := h; exact (Array.getElem?_eq_some_iff.1 h).1
theorem Row.old {w w1 : World} {g T n : Nat} (h : Row w g T n) {row : Option Nat} (hG : w.grownBy w1 row) (hne : row ≠ some g) : Row w1 g T n := by
  have hlt := h.lt
  obtain ⟨c, h, hs⟩ := h
  exact ⟨c, by rw [hG.block g hlt (fun e => hne e.symm)]; exact h, hs⟩
theorem load_blk (hgd : o.guard = none) (ty : TypeId) (x : Operand) (ho : o.op = .load ty x) (g T n e : Nat) (l : List UInt8) (hx : a.eval x = .pointer (some ⟨g, 0, none⟩)) (hB : Blk w g T l) (hl : l.length = n)
    (hu : P.underlying ty = some (.array n e)) (hi : (P.info? ty).map (·.size) = some n)
    (h : wpList P ops Q rest (a.put o.dst (.agg (Bs l))) w) : wpList P ops Q (o :: rest) a w :=
  wpList_load_row hgd ty x ho g hx T (Bs l) (0, 0) _ hB hu rfl (by rw [Bs_size, hl, hi]) h
theorem store_blk (hgd : o.guard = none) (ty : TypeId) (x y : Operand) (ho : o.op = .store ty x y) (g T n : Nat) (l : List UInt8) (hx : a.eval x = .pointer (some ⟨g, 0, none⟩)) (hy : a.eval y = .agg (Bs l)) (hR : Row w g T n) (hl : l.length = n)
    (hi : (P.info? ty).map (·.size) = some n)
    (h : ∀ w1, Blk w1 g T l → w.grownBy w1 (some g) → w1.heap.size = w.heap.size → wpList P ops Q rest (a.put o.dst undef) w1) : wpList P ops Q (o :: rest) a w := by
  obtain ⟨old, hg, hs⟩ := hR
  refine wpList_store_row hgd ty x y ho g (Bs l) hx hy T old hg (by rw [Bs_size, hl, hi]) (by rw [hs, Bs_size, hl]) (Bs_one l) ?_
  refine h _ ?_ ?_ (size_setRow w g _)
  · exact setRow_heap w g old _ T _ hg
  · exact ⟨rfl, rfl, rfl, Nat.le_of_eq (size_setRow w g _).symm, fun i hi hr => setRow_other w g i _ (by rintro rfl; exact hr rfl)⟩
theorem run_box (ty : TypeId) (v : Value) (w : World) : (Instr.box ty v).run P w = .ok (.pointer (some ⟨w.heap.size, 0, none⟩)) (w.alloc (.cells v.cells ty)) := by
  simp [Instr.box, newVar, newRow, go_sem]
theorem run_alloc (ty : TypeId) (z : Value) (w : World) (hz : ∀ w : World, (zeroValue ty).run P w = .ok z w) : (Instr.alloc ty true (.tuple #[])).run P w = .ok (.pointer (some ⟨w.heap.size, 0, none⟩)) (w.alloc (.cells z.cells ty)) := by
  simp [Instr.alloc, newVar, newRow, go_sem, hz]
theorem alloc_row (hgd : o.guard = none) (ty : TypeId) (ho : o.op = .alloc ty) (z : Value) (n : Nat) (hz : ∀ w : World, (zeroValue ty).run P w = .ok z w) (hn : z.cells.size = n)
    (h : ∀ w1, Row w1 w.heap.size ty n → w1.heap[w.heap.size]? = some (.cells z.cells ty (0, 0)) → w.grownBy w1 none → w1.heap.size = w.heap.size + 1 → wpList P ops Q rest (a.put o.dst (.pointer (some ⟨w.heap.size, 0, none⟩))) w1) : wpList P ops Q (o :: rest) a w :=
  wpList_plain hgd fun _ hK => by
    unfold Oper.wp execOp
    simp only [ho, Sem.run_bind, run_alloc ty z w hz, Result.andThen_ok]
    exact hK _ _ (h _ ⟨_, heap_alloc_new w _, hn⟩ (heap_alloc_new w _) (grown_alloc (grown_refl w none) _) (by show (w.heap.push _).size = _; simp))
theorem box_blk (hgd : o.guard = none) (ty : TypeId) (x : Operand) (ho : o.op = .box ty x) (l : List UInt8) (hx : a.eval x = .agg (Bs l))
    (h : ∀ w1, Blk w1 w.heap.size ty l → w.grownBy w1 none → w1.heap.size = w.heap.size + 1 → wpList P ops Q rest (a.put o.dst (.pointer (some ⟨w.heap.size, 0, none⟩))) w1) : wpList P ops Q (o :: rest) a w :=
  wpList_plain hgd fun _ hK => by
    unfold Oper.wp execOp
    simp only [ho, Sem.run_bind, hx, run_box ty _ w, Result.andThen_ok]
    exact hK _ _ (h _ (heap_alloc_new w _) (grown_alloc (grown_refl w none) _) (by show (w.heap.push _).size = _; simp))
theorem results_blk {fn : Func} {p u : Tmp} {ty : TypeId} (h : fn.results = #[.cell p ty, .tmp u]) (tmps : Array Value) (w : World) (g T n e : Nat) (l : List UInt8)
    (hp : tmps.getD p undef = .pointer (some ⟨g, 0, none⟩)) (hg : Blk w g T l) (hl : l.length = n)
    (hu : P.underlying ty = some (.array n e)) (hi : (P.info? ty).map (·.size) = some n) :
    (results fn tmps).run P w = .ok (.tuple #[.agg (Bs l), tmps.getD u undef]) w := by
  rw [results_cell_tmp h, hp]
  have : (loadVar ty ⟨g, 0, none⟩).run P w = .ok (.agg (Bs l)) w := run_loadVar_row w g T ty (Bs l) (0, 0) _ hg hu rfl (by rw [Bs_size, hl, hi])
  simp only [asAddr, Sem.run_pure, Result.andThen, this]
theorem results_blk1 {fn : Func} {p : Tmp} {ty : TypeId} (h : fn.results = #[.cell p ty]) (tmps : Array Value) (w : World) (g T n e : Nat) (l : List UInt8)
    (hp : tmps.getD p undef = .pointer (some ⟨g, 0, none⟩)) (hg : Blk w g T l) (hl : l.length = n)
    (hu : P.underlying ty = some (.array n e)) (hi : (P.info? ty).map (·.size) = some n) :
    (results fn tmps).run P w = .ok (.agg (Bs l)) w :=
  results_cell_row h tmps w g T (Bs l) (0, 0) (.array n e) hp hg hu rfl (by rw [Bs_size, hl, hi])
end
end Lk
