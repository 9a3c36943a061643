/- A byte stored into an owned slice, the world behind it a letter. -/
import Derived.Test.YtjbdhnmkeaogcaaCarry
import Derived.BigFrame
set_option linter.unusedVariables false
set_option linter.unusedSimpArgs false
namespace Lk
open Go Go.RowKit
section
variable {P : Program} {ops : Array Oper} {rest : List Oper} {o : Oper} {a : Act} {w : World} {Q : Exit → Act → World → Prop}
theorem store_o (hgd : o.guard = none) (ty : TypeId) (x y : Operand) (ho : o.op = .store ty x y) (base g k L c : Nat) (l : List UInt8) (ch : UInt8) (hx : a.eval x = .pointer (some ⟨g, k, none⟩)) (z : Int) (hy : a.eval y = .int .u8 z) (hz : z = bv ch) (hO : Own w base (.slice (some ⟨g, 0, none⟩) L c) l) (hk : k < l.length)
    (hi : (P.info? ty).map (·.size) = some 1)
    (h : ∀ w1, Own w1 base (.slice (some ⟨g, 0, none⟩) L c) (l.set k ch) → w.grownBy w1 (some g) → w1.heap.size = w.heap.size → wpList P ops Q rest (a.put o.dst undef) w1) : wpList P ops Q (o :: rest) a w :=
  wpList_plain hgd fun _ hK => by
    subst hz
    have e : L = l.length := hO.len
    subst e
    unfold Oper.wp execOp
    simp only [ho, hx, hy, Instr.storeAt, Instr.sureAddr, Sem.run_bind, Sem.run_pure, Result.andThen_ok, run_storeVar_one w g k ty _ (.int .u8 (bv ch)) (hO.cell k hk) (hO.free k) rfl hi]
    exact hK _ _ (h _ (hO.stored k ch) (grown_set (grown_refl _ _) _ _) (World.size_setCell ..))
/-- a whole array of bytes read, the operation guarded and wanted -/
theorem load_blk_g (hw : Region.wanted o (yielded ops a.tmps) = true) (ty : TypeId) (x : Operand) (ho : o.op = .load ty x) (g T n e : Nat) (l : List UInt8) (hx : a.eval x = .pointer (some ⟨g, 0, none⟩)) (hB : Blk w g T l) (hl : l.length = n)
    (hu : P.underlying ty = some (.array n e)) (hi : (P.info? ty).map (·.size) = some n)
    (h : wpList P ops Q rest (a.put o.dst (.agg (Bs l))) w) : wpList P ops Q (o :: rest) a w :=
  wpList_step fun K hK => by
    simp only [hw, if_true]
    unfold Oper.wp execOp
    simp only [ho, hx, Instr.loadAt, Instr.sureAddr, Sem.run_bind, Sem.run_pure, Result.andThen_ok, run_loadVar_row w g T ty (Bs l) (0, 0) _ hB hu rfl (by rw [Bs_size, hl, hi])]
    exact hK _ _ h
end
end Lk
