/- The reference's Xor. -/
import Derived.Test.YtbbfjlnkhenbiaaDoorKB4
import Derived.Test.YtbbfjlnkhenbiaaDoorKB6
import Derived.StillTailTactics
import Derived.Laws.Slices
import Derived.Test.YtbbfjlnkhenbiaaDoorKB5
import Derived.Test.YtbbfjlnkhenbiaaDoorKG0
set_option linter.unusedVariables false
set_option linter.unusedSimpArgs false
namespace Go.Proofs.YtbbfjlnkhenbiaaDoor
open Go.RowKit Lk
end Go.Proofs.YtbbfjlnkhenbiaaDoor
set_option linter.unusedVariables false
set_option linter.unusedSimpArgs false
namespace Lk
open Go Go.RowKit
section
variable {P : Program} {ops : Array Oper} {rest : List Oper} {o : Oper} {a : Act} {w : World} {Q : Exit → Act → World → Prop}
theorem append_bg (hu : P.underlying slt = some (.slice u8t)) (hinfo : (P.info? u8t).map (fun i => (i.zero, i.size, i.bytes)) = some (some (.int .u8 0), 1, 1)) (hw : Region.wanted o (yielded ops a.tmps) = true) (s x : Operand)
    (ho : o.op = .call { callee := .builtin .append, args := #[s, x], argTypes := #[slt, slt] }) (base : Nat) (v : Value) (l : List UInt8) (hs : a.eval s = v) (hown : Own w base v l)
    (v2 : Value) (m : List UInt8) (hx : a.eval x = v2) (hm : SlB w v2 m) (hlen : l.length + m.length ≤ 140737488355328) (hbase : base ≤ w.heap.size)
    (h : ∀ v' w', Own w' base v' (l ++ m) → w.grownBy w' v.ownBlock → wpList P ops Q rest (a.put o.dst v') w') : wpList P ops Q (o :: rest) a w := by
  refine wpList_step fun K hK => ?_
  simp only [hw, if_true]
  obtain ⟨i, hi, hz, h1, h2⟩ := info_parts hinfo
  obtain ⟨A, c, rfl, n1, n2, n3, n4⟩ := hm
  cases A with
  | none =>
    obtain rfl := n1 rfl
    have hm0 : m = [] := List.eq_nil_of_length_eq_zero (by omega)
    subst hm0
    rw [List.append_nil] at h
    have hrun := run_append_owned_none (P := P) (w := w) base slt o.type u8t i 1 hu hi v l.length (Bl l) hown
    unfold Oper.wp
    simp [execOp, ho, resolve, invoke, builtin, hs, hx, hrun, Result.andThen]
    exact hK _ _ (h v w hown (World.grownBy.refl _ _))
  | some ad =>
    have hnews : ∀ j u, (Bl m)[j]? = some u → w.cell? (ad.add j) = some u := by
      intro j u hj
      obtain ⟨hjl, rfl⟩ := Bl_get m j u hj
      obtain ⟨g, o', e, hr⟩ := n4 (by omega)
      cases e
      have : (⟨g, o', none⟩ : Addr).add j = ⟨g, o' + j, none⟩ := by unfold Addr.add; split <;> simp_all
      rw [this]
      exact hr j hjl
    refine wp_append_own w s x slt ho base u8t i (.int .u8 0) 1 1 hu hi hz h1 h2 rfl (by decide) v l.length (Bl l) hs hown ad m.length c (Bl m) hx (by rw [Bl_len, Nat.mul_one]) hnews (Bl_one m) (by unfold maxLen; omega) (by omega) hbase ?_
    intro v' w' h3 h4 _
    refine hK _ _ (h v' w' ?_ h4)
    unfold Own
    rw [List.length_append, Bl_app]
    exact h3
end
end Lk
namespace Go.Proofs.YtbbfjlnkhenbiaaDoor
open Go Go.RowKit Lk
theorem huel : Tryd.prog.underlying slt = some (.slice (Tryd.prog.elem slt)) := by kernel_rfl
section
variable {ops : Array Oper} {rest : List Oper} {o : Oper} {a : Act} {w : World} {Q : Exit → Act → World → Prop}
theorem run_from (w : World) (A : Option Addr) (L c k : Nat) (hk : k ≤ L) : (Instr.sliceAt slt (.slice A L c) (some (.int .i64 k)) none none).run Tryd.prog w = .ok (sliced A k L c 1) w := by
  have hsz : (sizeOf (Tryd.prog.elem slt) : Sem Nat).run Tryd.prog w = .ok 1 w := by kernel_rfl
  rw [run_sliceAt_slice w slt _ _ _ _ huel, run_slice_l w slt _ _ _ huel .i64 (k : Int) (by omega) (by omega), hsz]
  simp only [Result.andThen_ok, Int.toNat_natCast]
theorem slB_from {w : World} {A : Option Addr} {L c k : Nat} {l : List UInt8} (h : SlB w (.slice A L c) l) (hk : k ≤ L) : SlB w (sliced A k L c 1) (l.drop k) := by
  obtain ⟨A', c', e, h1, h2, h3, h4⟩ := h
  cases e
  unfold sliced
  refine ⟨_, c - k, by rw [List.length_drop], fun hn => ?_, by rw [List.length_drop]; omega, by omega, fun hc => ?_⟩
  · by_cases e : c = k
    · omega
    · rw [if_neg e] at hn
      cases A with
      | none => have := h1 rfl; omega
      | some ad => cases hn
  · obtain ⟨g, ofs, rfl, hr⟩ := h4 (by omega)
    refine ⟨g, ofs + k, ?_, fun j hj => ?_⟩
    · rw [if_neg (by omega), Option.map_some, Nat.mul_one]
      unfold Addr.add; split <;> simp_all
    · rw [List.length_drop] at hj
      have := hr (k + j) (by omega)
      rw [← Nat.add_assoc] at this
      rw [this]
      unfold g8
      rw [List.getD_eq_getElem?_getD, List.getD_eq_getElem?_getD, List.getElem?_drop]
/-- a slice from k on, whatever its capacity -/
theorem slice_from (hgd : o.guard = none) (x lo : Operand) (ho : o.op = .slice slt x (some lo) none none) (A : Option Addr) (L c k : Nat) (l : List UInt8) (hx : a.eval x = .slice A L c) (hlo : a.eval lo = .int .i64 k) (hs : SlB w (.slice A L c) l) (hk : k ≤ L)
    (h : ∀ A', SlB w (.slice A' (L - k) (c - k)) (l.drop k) → wpList Tryd.prog ops Q rest (a.put o.dst (.slice A' (L - k) (c - k))) w) : wpList Tryd.prog ops Q (o :: rest) a w :=
  wpList_plain hgd fun _ hK => by
    unfold Oper.wp execOp
    simp only [ho, hx, hlo, Option.map_some, Option.map_none, Sem.run_bind, run_from w A L c k hk, Result.andThen_ok]
    exact hK _ _ (h _ (slB_from hs hk))
end
end Go.Proofs.YtbbfjlnkhenbiaaDoor
set_option linter.unusedVariables false
set_option linter.unusedSimpArgs false
namespace Lk
theorem ext_d {a b : List Int} (h : a.length = b.length) (hi : ∀ i, i < a.length → a.getD i 0 = b.getD i 0) : a = b := by
  apply List.ext_getElem h
  intro i h1 h2
  have := hi i h1
  simpa [List.getD_eq_getElem?_getD, h1, h2] using this
theorem getD_app (a b : List Int) (i : Nat) : (a ++ b).getD i 0 = if i < a.length then a.getD i 0 else b.getD (i - a.length) 0 := by
  simp only [List.getD_eq_getElem?_getD, List.getElem?_append]
  split <;> rfl
theorem getD_drop (a : List Int) (n i : Nat) : (a.drop n).getD i 0 = a.getD (n + i) 0 := by
  simp [List.getD_eq_getElem?_getD, List.getElem?_drop]
end Lk

set_option linter.unusedVariables false
set_option linter.unusedSimpArgs false
set_option linter.unusedVariables false
set_option linter.unusedSimpArgs false
set_option linter.unusedVariables false
set_option linter.unusedSimpArgs false
namespace Lk
open Go Go.RowKit
theorem Is_drop (l : List Int) (n : Nat) : (Is l).drop n = Is (l.drop n) := by unfold Is; rw [List.map_drop]
end Lk
set_option linter.unusedVariables false
set_option linter.unusedSimpArgs false
namespace Go.Proofs.YtbbfjlnkhenbiaaDoor
open Go Go.RowKit Lk
section
variable {ops : Array Oper} {o : Oper} {a : Act} {w : World}
theorem run_u8len (w : World) : (sizeOf (Tryd.prog.elem slt) : Sem Nat).run Tryd.prog w = .ok 1 w := by kernel_rfl
theorem yields_fromB {S : World → Prop} (hw : Region.wanted o (yielded ops a.tmps) = true) (x lo : Operand) (ho : o.op = .slice slt x (some lo) none none) (g k L c n : Nat) (hx : a.eval x = .slice (some ⟨g, k, none⟩) L c) (hlo : a.eval lo = .int .i64 n) (h1 : n ≤ L) (h2 : L ≤ c) (hc : ¬ c = n) : YieldsIf Tryd.prog ops S o (.slice (some ⟨g, k + n, none⟩) (L - n) (c - n)) a := .inl ⟨hw, fun w hS => by
    unfold execOp
    simp only [ho, hx, hlo, Option.map_some, Option.map_none]
    rw [Sem.run_bind, run_sliceAt_slice w slt _ _ _ _ huel, run_slice_l w slt _ _ _ huel .i64 (n : Int) (by omega) (by omega), run_u8len]
    simp only [Result.andThen_ok, Sem.run_pure, sliced, Int.toNat_natCast, if_neg hc, Option.map_some, Nat.mul_one]
    rw [show (⟨g, k, none⟩ : Addr).add n = ⟨g, k + n, none⟩ from by unfold Addr.add; split <;> simp_all]⟩
theorem yields_midB {S : World → Prop} (hw : Region.wanted o (yielded ops a.tmps) = true) (x lo hi : Operand) (ho : o.op = .slice slt x (some lo) (some hi) none) (g k L c n m : Nat) (hx : a.eval x = .slice (some ⟨g, k, none⟩) L c) (hlo : a.eval lo = .int .i64 n) (hhi : a.eval hi = .int .i64 m) (h1 : n ≤ m) (h2 : m ≤ c) (hc : ¬ c = n) : YieldsIf Tryd.prog ops S o (.slice (some ⟨g, k + n, none⟩) (m - n) (c - n)) a := .inl ⟨hw, fun w hS => by
    unfold execOp
    simp only [ho, hx, hlo, hhi, Option.map_some, Option.map_none]
    rw [Sem.run_bind, run_sliceAt_slice w slt _ _ _ _ huel, run_slice_lh w slt _ _ _ huel .i64 .i64 (n : Int) (m : Int) (by omega) (by omega) (by omega), run_u8len]
    simp only [Result.andThen_ok, Sem.run_pure, sliced, Int.toNat_natCast, if_neg hc, Option.map_some, Nat.mul_one]
    rw [show (⟨g, k, none⟩ : Addr).add n = ⟨g, k + n, none⟩ from by unfold Addr.add; split <;> simp_all]⟩
end
end Go.Proofs.YtbbfjlnkhenbiaaDoor
