/- The reference's ciphers: a block done with AES or TDES; whatever the book is. -/
import Derived.Test.YtpfmhohldfnhmaaKR5
import Derived.Test.YtpfmhohldfnhmaaKRH
import Derived.Test.YtpfmhohldfnhmaaKG0
import Derived.Test.YtpfmhohldfnhmaaKB5
set_option linter.unusedVariables false
set_option linter.unusedSimpArgs false
namespace Lk
open Go Go.RowKit
theorem results_ctt {fn : Func} {p u v : Tmp} {ty : TypeId} (h : fn.results = #[.cell p ty, .tmp u, .tmp v]) (tmps : Array Value) (P : Program) (w : World) :
    (results fn tmps).run P w =
      ((asAddr (tmps.getD p undef)).run P w).andThen fun a w₁ => ((loadVar ty a).run P w₁).andThen fun x w₂ => .ok (.tuple #[x, tmps.getD u undef, tmps.getD v undef]) w₂ := by
  simp only [results, h]
  simp [Sem.run_bind, Result.andThen]
theorem updn_all (n : Nat) (b z : List UInt8) (h : b.length = n) : updn n (g8 b) z n = b := by
  apply List.ext_getElem
  · rw [updn_len, h]
  · intro i h1 h2
    have : i < n := by omega
    simp [updn, g8, h2, this]
end Lk
namespace Go.Proofs.Ytpfmhohldfnhmaa
open Go Go.RowKit Lk
/-- a book in a block -/
def Bk (w : World) (g T : Nat) (x y : Value) : Prop := VB w g T [x, y]
section
variable {ops : Array Oper} {rest : List Oper} {o : Oper} {a : Act} {w : World} {Q : Exit → Act → World → Prop}
end
end Go.Proofs.Ytpfmhohldfnhmaa
set_option linter.unusedVariables false
set_option linter.unusedSimpArgs false
namespace Go.Proofs.Ytpfmhohldfnhmaa
open Go Go.RowKit Lk
theorem ne_rows {a b : Option Nat} (X : Nat) (h1 : ∀ q, a = some q → X ≤ q) (h2 : ∀ q, b = some q → q < X) : a = none ∨ a ≠ b := by
  cases a with
  | none => exact .inl rfl
  | some q => exact .inr fun e => by have := h1 q rfl; have := h2 q e.symm; omega
theorem sl_one (u : Value) (h : ∃ A n c, u = .slice A n c) : u.oneCell' = true := by
  obtain ⟨A, n, c, rfl⟩ := h; rfl
end Go.Proofs.Ytpfmhohldfnhmaa
set_option linter.unusedVariables false
set_option linter.unusedSimpArgs false
namespace Lk
open Go Go.RowKit
section
variable {P : Program} {ops : Array Oper} {Q : Exit → Act → World → Prop} {K : Act → World → Prop} {i : Nat} {o : Oper} {a : Act} {w : World}
theorem wpOp_enterE (hi : ops[i]? = some o) (hw : Region.wanted o (yielded ops a.tmps) = true) (f : FuncId) (args : Array Value) (G : Value → World → Prop) (h : (execOp a.eval o).run P w = .ok (.enter f args) w)
    (hc : Calls P f args w fun e w' => ∃ v, e = .returned v ∧ G v w') (hk : ∀ v w', G v w' → K (a.put o.dst v) w') : wpOp P ops Q i K a w := by
  unfold Go.wpOp
  simp only [hi, hw, if_true]
  refine .inl ?_
  unfold Oper.wp
  rw [h]
  refine hc.mono ?_
  rintro e w' ⟨v, rfl, hG⟩
  exact hk v w' hG
theorem wpOp_storev (hi : ops[i]? = some o) (hw : Region.wanted o (yielded ops a.tmps) = true) (ty : TypeId) (x y : Operand) (ho : o.op = .store ty x y) (g T m : Nat) (l : List Value) (hx : a.eval x = .pointer (some ⟨g, 0, none⟩)) (hy : a.eval y = .agg l.toArray) (hR : Row w g T m) (h2 : ∀ u ∈ l, u.oneCell' = true) (hm : l.length = m)
    (hinfo : (P.info? ty).map (·.size) = some m)
    (hk : ∀ w1, VB w1 g T l → w.grownBy w1 (some g) → w1.heap.size = w.heap.size → K (a.put o.dst undef) w1) : wpOp P ops Q i K a w := by
  unfold Go.wpOp
  simp only [hi, hw, if_true]
  refine .inl ?_
  obtain ⟨old, hg, hs⟩ := hR
  refine wp_store_row ty x y ho g l.toArray hx hy T old hg (by rw [hinfo]; simp [hm]) (by rw [hs]; simp [hm]) (all_oneCell_toArray h2) ?_
  refine hk _ ?_ ?_ (size_setRow w g _)
  · exact setRow_heap w g old _ T _ hg
  · exact ⟨rfl, rfl, rfl, Nat.le_of_eq (size_setRow w g _).symm, fun i hi hr => setRow_other w g i _ (by rintro rfl; exact hr rfl)⟩
end
end Lk
namespace Go.Proofs.Ytpfmhohldfnhmaa
open Go Go.RowKit Lk
section
variable {ops : Array Oper} {o : Oper} {a : Act} {w : World}
end
end Go.Proofs.Ytpfmhohldfnhmaa
