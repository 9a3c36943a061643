/- Arrays of bytes held against each other. -/
import Derived.Test.YtjbdhnmkeaogcaaEq
import Derived.ChangeKeysEq
set_option linter.unusedVariables false
set_option linter.unusedSimpArgs false
namespace Lk
open Go Go.RowKit
section
variable {P : Program}
theorem run_eqItems_bs (w : World) (d : Nat) {e : TypeId} (he : P.underlying e = some (.int .u8)) (hc : P.cellsOf e = 1) (a b : List UInt8) : ∀ is : List Nat, (∀ i ∈ is, i < a.length ∧ i < b.length) →
    (Op.eqItems (d + 1) e (P.cellsOf e) (Bs a) (Bs b) is).run P w = .ok (is.all fun i => g8 a i == g8 b i) w
  | [], _ => by simp [Op.eqItems]
  | i :: is, h => by
    have hp : P.plainKey e = true := by unfold Program.plainKey; rw [he]
    have h1 := (h i (by simp)).1
    have h2 := (h i (by simp)).2
    have p1 := run_part_plain (P := P) w hp (xs := Bs a) (off := i) (Bs_get a i h1)
    have p2 := run_part_plain (P := P) w hp (xs := Bs b) (off := i) (Bs_get b i h2)
    have e1 : i * P.cellsOf e = i := by rw [hc, Nat.mul_one]
    have p3 : (Op.equalIn (d + 1) e (.int .u8 (bv (g8 a i))) (.int .u8 (bv (g8 b i)))).run P w = .ok (g8 a i == g8 b i) w := by
      simp [Op.equalIn, run_underlying he, bv_eq]
    simp only [Op.eqItems, Sem.run_bind, e1, p1, p2, p3, Result.andThen_ok]
    cases hb : (g8 a i == g8 b i)
    · simp [hb]
    · have := run_eqItems_bs w d he hc a b is (fun j hj => h j (by simp [hj]))
      simp [hb, this]
theorem run_eql_bs (w : World) {t e : TypeId} {n : Nat} (a b : List UInt8) (hu : P.underlying t = some (.array n e)) (he : P.underlying e = some (.int .u8)) (hc : P.cellsOf e = 1) (hi : (P.info? e).isSome = true) (ha : a.length = n) (hb : b.length = n) :
    (binOp .eql t (.agg (Bs a)) (.agg (Bs b))).run P w = .ok (.bool (a == b)) w := by
  obtain ⟨i, hi⟩ := Option.isSome_iff_exists.1 hi
  have h := run_equalIn_array (P := P) w 9999 (Bs a) (Bs b) hu hi
  rw [run_eqItems_bs w 9998 he hc a b (List.range n) (fun j hj => by have := List.mem_range.1 hj; omega)] at h
  have e : ((List.range n).all fun i => g8 a i == g8 b i) = (a == b) := by
    rw [Bool.eq_iff_iff, List.all_eq_true, beq_iff_eq]
    constructor
    · intro h
      exact same_ext (by omega) (fun i hi => by simpa using h i (List.mem_range.2 (by omega)))
    · intro h i hi; rw [h]; simp
  rw [e] at h
  simp [binOp, Op.equal, Op.maxDepth, h]
end
end Lk
