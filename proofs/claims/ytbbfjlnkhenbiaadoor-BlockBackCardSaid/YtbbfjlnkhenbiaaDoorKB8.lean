/- Keys' parity: part.odd, part.Odd, part.sized, part.Right. -/
import Derived.Test.YtbbfjlnkhenbiaaDoorKB5
import Derived.Test.YtbbfjlnkhenbiaaDoorKB4
import Derived.Test.YtbbfjlnkhenbiaaDoorKB6
import Derived.Lib.BitFns
import Derived.Lib.Tables
import Derived.Outline
set_option linter.unusedVariables false
set_option linter.unusedSimpArgs false
namespace Lk
open Go Go.RowKit
def podd (c : UInt8) : Bool := Lib.onesCount c.toNat % 2 == 1
def podd1 (c : UInt8) : UInt8 := if podd c then c else c ^^^ 1
def oddTo (l : List UInt8) (k : Nat) : List UInt8 := (List.range l.length).map fun i => if i < k then podd1 (g8 l i) else g8 l i
def podds (l : List UInt8) : List UInt8 := oddTo l l.length
theorem oddTo_len (l : List UInt8) (k : Nat) : (oddTo l k).length = l.length := by unfold oddTo; simp
theorem podds_len (l : List UInt8) : (podds l).length = l.length := oddTo_len _ _
theorem oddTo_at (l : List UInt8) (k i : Nat) (hi : i < l.length) : g8 (oddTo l k) i = if i < k then podd1 (g8 l i) else g8 l i := by
  unfold oddTo
  rw [g8_lt (by simpa using hi)]
  simp
theorem oddTo_zero (l : List UInt8) : oddTo l 0 = l := same_ext (oddTo_len _ _) fun i hi => by
  rw [oddTo_at l 0 i (by rw [oddTo_len] at hi; exact hi), if_neg (by omega)]
theorem oddTo_next (l : List UInt8) (k : Nat) (hk : k < l.length) (x : UInt8) (hx : x = podd1 (g8 l k)) : (oddTo l k).set k x = oddTo l (k + 1) := by
  refine same_ext (by simp [oddTo_len]) fun i hi => ?_
  rw [List.length_set, oddTo_len] at hi
  rw [oddTo_at l (k + 1) i hi]
  by_cases hik : i = k
  · subst hik
    rw [if_pos (by omega), ← hx, g8_lt (by rw [List.length_set, oddTo_len]; exact hi)]
    simp
  · have : g8 ((oddTo l k).set k x) i = g8 (oddTo l k) i := by
      unfold g8
      rw [List.getD_eq_getElem?_getD, List.getD_eq_getElem?_getD, List.getElem?_set_ne (Ne.symm hik)]
    rw [this, oddTo_at l k i hi]
    by_cases h : i < k
    · rw [if_pos h, if_pos (by omega)]
    · rw [if_neg h, if_neg (by omega)]
theorem oddTo_stay (l : List UInt8) (k : Nat) (hk : k < l.length) (h : podd (g8 l k) = true) : oddTo l k = oddTo l (k + 1) := by
  refine same_ext (by simp [oddTo_len]) fun i hi => ?_
  rw [oddTo_len] at hi
  rw [oddTo_at l k i hi, oddTo_at l (k + 1) i hi]
  by_cases hik : i = k
  · subst hik
    rw [if_neg (by omega), if_pos (by omega)]
    unfold podd1
    rw [if_pos h]
  · by_cases h : i < k
    · rw [if_pos h, if_pos (by omega)]
    · rw [if_neg h, if_neg (by omega)]
end Lk
namespace Go.Proofs.YtbbfjlnkhenbiaaDoor
open Go.RowKit Lk
theorem own_cap {w : World} {base : Nat} {A : Option Addr} {L c : Nat} {l : List UInt8} (h : Own w base (.slice A L c) l) : c ≤ maxLen := by
  obtain ⟨A', c', e, _, _, h2, _⟩ := h.slB
  simp only [Value.slice.injEq] at e
  rw [e.2.2]; exact h2
end Go.Proofs.YtbbfjlnkhenbiaaDoor
set_option linter.unusedVariables false
set_option linter.unusedSimpArgs false
namespace Lk
open Go Go.RowKit
def firstFrom : List UInt8 → Nat → Int
  | [], _ => -1
  | c :: r, i => if podd c then firstFrom r (i + 1) else i
def pfirst (l : List UInt8) : Int := firstFrom l 0
theorem drop_one (l : List UInt8) (k : Nat) (hk : k < l.length) : l.drop k = g8 l k :: l.drop (k + 1) := by
  rw [List.drop_eq_getElem_cons hk, g8_lt hk]
theorem first_odd (l : List UInt8) (k : Nat) (hk : k < l.length) (h : podd (g8 l k) = true) : firstFrom (l.drop k) k = firstFrom (l.drop (k + 1)) (k + 1) := by
  rw [drop_one l k hk, firstFrom, if_pos h]
theorem first_even (l : List UInt8) (k : Nat) (hk : k < l.length) (h : podd (g8 l k) = false) : firstFrom (l.drop k) k = k := by
  rw [drop_one l k hk, firstFrom, if_neg (by rw [h]; decide)]
theorem first_end (l : List UInt8) (k : Nat) (hk : l.length ≤ k) : firstFrom (l.drop k) k = -1 := by
  rw [List.drop_eq_nil_of_le hk, firstFrom]
def sumTo (c : UInt8) (j : Nat) : Int := ((byteBits c).take j).sum
theorem sumTo_next (c : UInt8) (j : Nat) (hj : j < 8) : sumTo c (j + 1) = sumTo c j + (byteBits c).getD j 0 := by
  unfold sumTo
  have h8 : j < (byteBits c).length := by rw [byteBits_len]; exact hj
  rw [List.take_succ_eq_append_getElem h8, List.sum_append, List.getD_eq_getElem?_getD, List.getElem?_eq_getElem h8, Option.getD_some, List.sum_cons, List.sum_nil, Int.add_zero]
theorem bit_01 (c : UInt8) (j : Nat) : 0 ≤ (byteBits c).getD j 0 ∧ (byteBits c).getD j 0 ≤ 1 := by
  rcases Nat.lt_or_ge j 8 with h | h
  · simp [byteBits, List.getD_eq_getElem?_getD, h, pbit]
    omega
  · have : (byteBits c).getD j 0 = 0 := by rw [List.getD_eq_getElem?_getD, List.getElem?_eq_none (by rw [byteBits_len]; exact h)]; rfl
    rw [this]; decide
theorem sumTo_bd (c : UInt8) (j : Nat) : 0 ≤ sumTo c j ∧ sumTo c j ≤ 8 := by
  have h : ∀ j, j ≤ 8 → 0 ≤ sumTo c j ∧ sumTo c j ≤ j := by
    intro j
    induction j with
    | zero => intro _; simp [sumTo]
    | succ j ih =>
      intro hj
      have := ih (by omega)
      rw [sumTo_next c j (by omega)]
      have := bit_01 c j
      omega
  rcases Nat.lt_or_ge j 8 with h8 | h8
  · have := h j (by omega); omega
  · have := h 8 (by omega)
    have e : sumTo c j = sumTo c 8 := by unfold sumTo; rw [List.take_of_length_le (by rw [byteBits_len]; exact h8), List.take_of_length_le (by rw [byteBits_len]; omega)]
    rw [e]; omega
theorem sum_all : allB (fun c => (decide (sumTo c 8 % 2 = 0)) == !podd c) = true := by decide +kernel
theorem sum_podd (c : UInt8) : decide (sumTo c 8 % 2 = 0) = !podd c := by simpa using allB_spec sum_all c
theorem pbits_one (c : UInt8) : pbits [c] = byteBits c := by simp [pbits]
end Lk
set_option linter.unusedVariables false
set_option linter.unusedSimpArgs false
namespace Lk
open Go Go.RowKit
theorem podds_map (l : List UInt8) : podds l = l.map podd1 := by
  refine same_ext (by rw [podds_len, List.length_map]) fun i hi => ?_
  rw [podds_len] at hi
  unfold podds
  rw [oddTo_at l _ i hi, if_pos hi, g8_lt (l := l.map podd1) (by simpa using hi)]
  simp [g8_lt hi]
theorem podds_take (l : List UInt8) (k : Nat) (hk : k < l.length) : podds (l.take (k + 1)) = podds (l.take k) ++ [podd1 (g8 l k)] := by
  rw [podds_map, podds_map, take_one l k hk, List.map_append]; rfl
theorem low_all : allB (fun c => (Nat.beq (Nat.mod c.toNat 2) 1 && Nat.beq (c ^^^ 1).toNat (Nat.sub c.toNat 1)) || (Nat.beq (Nat.mod c.toNat 2) 0 && Nat.beq (c ^^^ 1).toNat (Nat.add c.toNat 1))) = true := by decide +kernel
theorem low_spec (c : UInt8) : (bv c % 2 = 1 ∧ bv (c ^^^ 1) = bv c - 1) ∨ (bv c % 2 = 0 ∧ bv (c ^^^ 1) = bv c + 1) := by
  have h := allB_spec low_all c
  simp only [Bool.or_eq_true, Bool.and_eq_true, Nat.beq_eq_true_eq] at h
  unfold bv
  rcases h with ⟨h1, h2⟩ | ⟨h1, h2⟩
  · left
    have h1 : c.toNat % 2 = 1 := Nat.eq_of_beq_eq_true h1
    have h2 : (c ^^^ 1).toNat = c.toNat - 1 := Nat.eq_of_beq_eq_true h2
    omega
  · right
    have h1 : c.toNat % 2 = 0 := Nat.eq_of_beq_eq_true h1
    have h2 : (c ^^^ 1).toNat = c.toNat + 1 := Nat.eq_of_beq_eq_true h2
    omega
/-- 0: a key's length may be; else the error -/
def psz (kind : Int) (n : Nat) : Int := if kind ≠ 1 ∧ kind ≠ 2 then 1 else if n = 16 ∨ n = 24 ∨ (kind = 1 ∧ n = 32) then 0 else 2
end Lk
namespace Go.Proofs.YtbbfjlnkhenbiaaDoor
open Go.RowKit Lk
end Go.Proofs.YtbbfjlnkhenbiaaDoor
set_option linter.unusedVariables false
set_option linter.unusedSimpArgs false
namespace Go.Proofs.YtbbfjlnkhenbiaaDoor
open Go.RowKit Lk
end Go.Proofs.YtbbfjlnkhenbiaaDoor
set_option linter.unusedVariables false
set_option linter.unusedSimpArgs false
namespace Lk
open Go Go.RowKit
theorem first_one (c : UInt8) : pfirst [c] = if podd c then -1 else 0 := by
  unfold pfirst
  rw [firstFrom]
  split <;> simp [firstFrom]
end Lk
namespace Go.Proofs.YtbbfjlnkhenbiaaDoor
open Go.RowKit Lk
end Go.Proofs.YtbbfjlnkhenbiaaDoor
set_option linter.unusedVariables false
set_option linter.unusedSimpArgs false
namespace Go.Proofs.YtbbfjlnkhenbiaaDoor
open Go.RowKit Lk
/-- 0: no error -/
def errv (k : Int) : Value := if k = 0 then .nilIface else .iface 68 (.int .i64 k)
theorem errv_0 : errv 0 = .nilIface := rfl
theorem errv_k {k : Int} (h : k ≠ 0) : errv k = .iface 68 (.int .i64 k) := by unfold errv; rw [if_neg h]
/-- what is wrong: nothing, or a number with places around it -/
def ErO (w : World) : Option (List Int × Int) → Value → Prop
  | none, v => v = .nilIface
  | some p, v => ErV w p.1 p.2 v
theorem ErO.below {w w1 : World} {r : Option (List Int × Int)} {v : Value} (h : ErO w r v) (hL : Below w.heap.size w w1) : ErO w1 r v := by
  cases r with
  | none => exact h
  | some p => exact ErV.below h hL
/-- what is wrong with a key -/
def pright (kind : Int) (l : List UInt8) : Option (List Int × Int) :=
  if psz kind l.length ≠ 0 then some ([], psz kind l.length) else if kind = 2 ∧ 0 ≤ pfirst l then some ([pfirst l], 3) else none
theorem first_bd : ∀ (l : List UInt8) (i : Nat), firstFrom l i = -1 ∨ ((i : Int) ≤ firstFrom l i ∧ firstFrom l i < (i : Int) + (l.length : Int)) := by
  intro l
  induction l with
  | nil => intro i; left; rfl
  | cons c r ih =>
    intro i
    rw [firstFrom]
    split
    · rcases ih (i + 1) with h | h
      · left; exact h
      · right; simp; omega
    · right; simp; omega
end Go.Proofs.YtbbfjlnkhenbiaaDoor
