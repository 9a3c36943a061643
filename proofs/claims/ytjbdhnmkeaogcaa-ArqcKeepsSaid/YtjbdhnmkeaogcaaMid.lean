/- Rows within rows: stores in the middle of a block, and blocks of rows. -/
import Derived.Test.YtjbdhnmkeaogcaaOwn
import Derived.Deep.MidRow
import Derived.Laws.IdiomCopy
set_option linter.unusedVariables false
set_option linter.unusedSimpArgs false
namespace Lk
open Go Go.RowKit
/-- bytes put over others, from o on -/
def putAt : List UInt8 → Nat → List UInt8 → List UInt8
  | L, _, [] => L
  | L, o, x :: r => putAt (L.set o x) (o + 1) r
theorem putAt_len (l : List UInt8) : ∀ (L : List UInt8) (o : Nat), (putAt L o l).length = L.length := by
  induction l with
  | nil => intro L o; rfl
  | cons x r ih => intro L o; show (putAt (L.set o x) (o + 1) r).length = _; rw [ih, List.length_set]
theorem putAt_eq (l : List UInt8) : ∀ (L : List UInt8) (o : Nat), o + l.length ≤ L.length → putAt L o l = L.take o ++ l ++ L.drop (o + l.length) := by
  induction l with
  | nil => intro L o h; show L = _; simp
  | cons x r ih =>
    intro L o h
    simp only [List.length_cons] at h
    show putAt (L.set o x) (o + 1) r = _
    rw [ih _ _ (by rw [List.length_set]; omega)]
    rw [List.drop_set_of_lt (by omega)]
    rw [List.take_set, List.take_succ_eq_append_getElem (by omega), List.set_append_right _ _ (by simp; omega)]
    simp only [List.length_take, List.length_cons]
    have : min o L.length = o := by omega
    rw [this]
    simp [Nat.add_assoc, Nat.add_comm 1]
theorem Blk.setCells {g T : Nat} : ∀ (l : List UInt8) (w : World) (L : List UInt8) (o : Nat), Blk w g T L → Blk (w.setCells g o (l.map fun x => Value.int .u8 (bv x))) g T (putAt L o l)
  | [], w, L, o, h => h
  | x :: r, w, L, o, h => Blk.setCells r _ _ _ (h.set o x)
theorem grown_setCells {g : Nat} : ∀ (vs : List Value) (w w1 : World) (o : Nat), w.grownBy w1 (some g) → w.grownBy (w1.setCells g o vs) (some g)
  | [], w, w1, o, h => h
  | v :: r, w, w1, o, h => grown_setCells r w _ _ (grown_set h o v)
theorem size_setCells {g : Nat} : ∀ (vs : List Value) (w : World) (o : Nat), (w.setCells g o vs).heap.size = w.heap.size
  | [], w, o => rfl
  | v :: r, w, o => by
    show ((w.setCell ⟨g, o, none⟩ v).setCells g (o + 1) r).heap.size = _
    rw [size_setCells r, World.size_setCell]
theorem Blk.there {w : World} {g T : Nat} {L : List UInt8} (h : Blk w g T L) (o n : Nat) (hn : o + n ≤ L.length) : w.there g o n := fun j hj =>
  ⟨by rw [h.cell (o + j) (by omega)]; rfl, h.free _⟩
theorem Blk.rd {w : World} {g T : Nat} {L : List UInt8} (h : Blk w g T L) (o n : Nat) (hn : o + n ≤ L.length) : Rd w g o ((L.drop o).take n) := by
  intro k hk
  rw [List.length_take, List.length_drop] at hk
  rw [h.cell (o + k) (by omega)]
  have : g8 L (o + k) = g8 ((L.drop o).take n) k := by
    unfold g8
    rw [List.getD_eq_getElem?_getD, List.getD_eq_getElem?_getD, List.getElem?_take_of_lt (by omega), List.getElem?_drop]
  rw [this]
theorem Rd.below {w w1 : World} {g o B : Nat} {l : List UInt8} (h : Rd w g o l) (hG : Below B w w1) (hg : g < B) : Rd w1 g o l := by
  intro k hk
  have := hG.block g hg
  have h := h k hk
  simp only [World.cell?] at h ⊢
  rw [this]; exact h
section
variable {P : Program} {ops : Array Oper} {rest : List Oper} {o : Oper} {a : Act} {w : World} {Q : Exit → Act → World → Prop}
theorem store_mid (hgd : o.guard = none) (ty : TypeId) (x y : Operand) (ho : o.op = .store ty x y) (g k T m : Nat) (L l : List UInt8) (hx : a.eval x = .pointer (some ⟨g, k, none⟩)) (hy : a.eval y = .agg (Bs l)) (hB : Blk w g T L) (hm : l.length = m) (hl : k + m ≤ L.length)
    (hi : (P.info? ty).map (·.size) = some m)
    (h : ∀ w1, Blk w1 g T (putAt L k l) → w.grownBy w1 (some g) → w1.heap.size = w.heap.size → wpList P ops Q rest (a.put o.dst undef) w1) : wpList P ops Q (o :: rest) a w := by
  subst hm
  refine wpList_store_mid hgd ty x y ho g k (Bs l) hx hy (by rw [Bs_size]; exact hB.there k _ hl) (by rw [Bs_size, hi]) (Bs_one l) ?_
  have e : (Bs l).toList = l.map fun x => Value.int .u8 (bv x) := by simp [Bs]
  rw [e]
  exact h _ (Blk.setCells l w L k hB) (grown_setCells _ _ _ _ (grown_refl _ _)) (size_setCells _ _ _)
theorem load_blkm (hgd : o.guard = none) (ty : TypeId) (x : Operand) (ho : o.op = .load ty x) (g T n e m : Nat) (l : List UInt8) (hx : a.eval x = .pointer (some ⟨g, 0, none⟩)) (hB : Blk w g T l) (hl : l.length = m)
    (hu : P.underlying ty = some (.array n e)) (hi : (P.info? ty).map (·.size) = some m)
    (h : wpList P ops Q rest (a.put o.dst (.agg (Bs l))) w) : wpList P ops Q (o :: rest) a w :=
  wpList_load_row hgd ty x ho g hx T (Bs l) (0, 0) _ hB hu rfl (by rw [Bs_size, hl, hi]) h
theorem results_blkm {fn : Func} {p u : Tmp} {ty : TypeId} (h : fn.results = #[.cell p ty, .tmp u]) (tmps : Array Value) (w : World) (g T n e m : Nat) (l : List UInt8)
    (hp : tmps.getD p undef = .pointer (some ⟨g, 0, none⟩)) (hg : Blk w g T l) (hl : l.length = m)
    (hu : P.underlying ty = some (.array n e)) (hi : (P.info? ty).map (·.size) = some m) :
    (results fn tmps).run P w = .ok (.tuple #[.agg (Bs l), tmps.getD u undef]) w := by
  rw [results_cell_tmp h, hp]
  have : (loadVar ty ⟨g, 0, none⟩).run P w = .ok (.agg (Bs l)) w := run_loadVar_row w g T ty (Bs l) (0, 0) _ hg hu rfl (by rw [Bs_size, hl, hi])
  simp only [asAddr, Sem.run_pure, Result.andThen, this]
end
end Lk
