/- The reference's bits and bytes. -/
import Derived.Test.YtpfmhohldfnhmaaKB5
import Derived.BigFrame
import Derived.Test.YtpfmhohldfnhmaaProg
import Derived.WalkKit
import Derived.LaidEql
import Derived.Stop.Asserts
import Derived.RowKitTokens
import Derived.Test.YtpfmhohldfnhmaaKB0
import Derived.Deep.LoopGhost
import Derived.Test.YtpfmhohldfnhmaaKB4
import Derived.Lib.BitFns
import Derived.Lib.Tables
import Derived.Outline
set_option linter.unusedVariables false
set_option linter.unusedSimpArgs false
namespace Lk
open Go Go.RowKit
def pbit (c : UInt8) (i : Nat) : Int := ((c.toNat / 2 ^ i % 2 : Nat) : Int)
def byteBits (c : UInt8) : List Int := (List.range 8).map fun j => pbit c (7 - j)
def pbits : List UInt8 → List Int
  | [] => []
  | c :: r => byteBits c ++ pbits r
theorem pbits_app (a b : List UInt8) : pbits (a ++ b) = pbits a ++ pbits b := by
  induction a with
  | nil => rfl
  | cons c r ih => simp [pbits, ih]
theorem byteBits_len (c : UInt8) : (byteBits c).length = 8 := by simp [byteBits]
theorem pbits_len (l : List UInt8) : (pbits l).length = 8 * l.length := by
  induction l with
  | nil => rfl
  | cons c r ih => simp [pbits, ih, byteBits_len]; omega
theorem take_one (l : List UInt8) (k : Nat) (hk : k < l.length) : l.take (k + 1) = l.take k ++ [g8 l k] := by
  rw [List.take_succ_eq_append_getElem hk, g8_lt hk]
theorem pbits_take (l : List UInt8) (k : Nat) (hk : k < l.length) : pbits (l.take (k + 1)) = pbits (l.take k) ++ byteBits (g8 l k) := by
  rw [take_one l k hk, pbits_app]
  simp [pbits]
theorem byteBits_take (c : UInt8) (s : Nat) (hs : s < 8) : (byteBits c).take (7 - s) ++ [pbit c s] = (byteBits c).take (8 - s) := by
  rw [show 8 - s = (7 - s) + 1 by omega, List.take_succ_eq_append_getElem (by rw [byteBits_len]; omega)]
  congr 1
  simp [byteBits]
  congr 1
  omega
theorem and_pbit (c : UInt8) (s : Nat) : Go.bits .and .i64 (bv c / (2 : Int) ^ s) 1 = pbit c s := by
  have h : bv c / (2 : Int) ^ s = ((c.toNat / 2 ^ s : Nat) : Int) := by unfold bv; norm_cast
  have hc := c.toNat_lt
  have hd := Nat.div_le_self c.toNat (2 ^ s)
  rw [h, show (1 : Int) = ((1 : Nat) : Int) from rfl, bits_and_i64 _ _ (by omega) (by omega)]
  unfold pbit
  rw [Nat.and_one_is_mod]
end Lk
namespace Go.Proofs.Ytpfmhohldfnhmaa
open Go.RowKit Lk
end Go.Proofs.Ytpfmhohldfnhmaa
set_option linter.unusedVariables false
set_option linter.unusedSimpArgs false
namespace Lk
open Go Go.RowKit
section
variable {P : Program} {ops : Array Oper} {rest : List Oper} {o : Oper} {a : Act} {w : World} {Q : Exit → Act → World → Prop}
theorem store_o (hgd : o.guard = none) (ty : TypeId) (x y : Operand) (ho : o.op = .store ty x y) (base g k L c : Nat) (l : List UInt8) (ch : UInt8) (hx : a.eval x = .pointer (some ⟨g, k, none⟩)) (z : Int) (hy : a.eval y = .int .u8 z) (hz : z = bv ch) (hO : Own w base (.slice (some ⟨g, 0, none⟩) L c) l) (hk : k < l.length)
    (hi : (P.info? ty).map (·.size) = some 1)
    (h : ∀ w1, Own w1 base (.slice (some ⟨g, 0, none⟩) L c) (l.set k ch) → w.grownBy w1 (some g) → w1.heap.size = w.heap.size → wpList P ops Q rest (a.put o.dst undef) w1) : wpList P ops Q (o :: rest) a w :=
  wpList_plain hgd fun _ hK => by
    subst hz
    have e : L = l.length := hO.len
    subst e
    unfold Oper.wp execOp
    simp only [ho, hx, hy, Instr.storeAt, Instr.sureAddr, Sem.run_bind, Sem.run_pure, Result.andThen_ok, run_storeVar_one w g k ty _ (.int .u8 (bv ch)) (hO.cell k hk) (hO.free k) rfl hi]
    exact hK _ _ (h _ (hO.stored k ch) (grown_set (grown_refl _ _) _ _) (World.size_setCell ..))
/-- a whole array of bytes read, the operation guarded and wanted -/
theorem load_blk_g (hw : Region.wanted o (yielded ops a.tmps) = true) (ty : TypeId) (x : Operand) (ho : o.op = .load ty x) (g T n e : Nat) (l : List UInt8) (hx : a.eval x = .pointer (some ⟨g, 0, none⟩)) (hB : Blk w g T l) (hl : l.length = n)
    (hu : P.underlying ty = some (.array n e)) (hi : (P.info? ty).map (·.size) = some n)
    (h : wpList P ops Q rest (a.put o.dst (.agg (Bs l))) w) : wpList P ops Q (o :: rest) a w :=
  wpList_step fun K hK => by
    simp only [hw, if_true]
    unfold Oper.wp execOp
    simp only [ho, hx, Instr.loadAt, Instr.sureAddr, Sem.run_bind, Sem.run_pure, Result.andThen_ok, run_loadVar_row w g T ty (Bs l) (0, 0) _ hB hu rfl (by rw [Bs_size, hl, hi])]
    exact hK _ _ h
end
end Lk
set_option linter.unusedVariables false
set_option linter.unusedSimpArgs false
namespace Lk
open Go Go.RowKit Go.Extern.Stop Go.Stop Go.Extern
theorem rlm (z : Sem Value) (f : TypeId → Addr → Nat → Nat → Sem Value) (v : Value) :
    ReflectliteValue.method z f #[v] = (do match ← ReflectliteValue.parts v with | none => z | some (t, a, fl) => f t a fl (fl % 32)) := rfl
theorem rls (v x : Value) : ReflectliteValue.set #[v, x] = (do
    let (some (dst, a, fl), some (src, b, _)) := (← ReflectliteValue.parts v, ← ReflectliteValue.parts x)
      | unsupported (.noEntry "extern/(internal/reflectlite.Value).Set.zeroValue")
    if fl / ReflectliteValue.flagAddr % 2 == 0 then unsupported (.noEntry "extern/(internal/reflectlite.Value).Set.unaddressable")
    let val ← loadVar src b
    if ← Rtype.directlyAssignable dst src then storeVar dst a val
    else if ← Rtype.implements dst src then
      if (← Rtype.kind src) == 20 then
        match val with
        | .nilIface => unsupported (.noEntry "extern/reflectlite: a nil value of one interface type handed on as a value of another")
        | _ => storeVar dst a val
      else storeVar dst a (.iface src val)
    else panicString ("reflectlite.Set: value of type " ++ (← Rtype.spelt src) ++ " is not assignable to type " ++ (← Rtype.spelt dst))
    pure (.tuple #[])) := rfl
end Lk
namespace Go.Proofs.Ytpfmhohldfnhmaa
open Go.RowKit Go.Extern.Stop Go.Stop Go.Extern Lk
def hnd (t : Nat) : Value := .pointer (some ⟨1, t, none⟩)

theorem kindE (w : World) : ((ReflectliteType.abiMethod fun t => (fun a : Nat => Value.int IntKind.u8 (a : Int)) <$> Rtype.kind t) #[.pointer (some ⟨1, 49, none⟩)]).run Try.prog w = .ok (.int .u8 2) w := by kernel_rfl
theorem undE : Try.prog.underlying 49 = some (.int .i64) := by kernel_rfl
theorem mkE (p : Addr) (w : World) : (ReflectliteValue.mk 49 p ReflectliteValue.flagAddr).run Try.prog w = .ok (.agg #[.pointer (some ⟨1, 49, none⟩), .pointer (some p), .int .u64 386]) w := by kernel_rfl
theorem partsEa (a : Addr) (w : World) : (ReflectliteValue.parts (.agg #[.pointer (some ⟨1, 49, none⟩), .pointer (some a), .int .u64 386])).run Try.prog w = .ok (some (49, a, 386)) w := by kernel_rfl
theorem partsE (a : Addr) (w : World) : (ReflectliteValue.parts (.agg #[.pointer (some ⟨1, 49, none⟩), .pointer (some a), .int .u64 130])).run Try.prog w = .ok (some (49, a, 130)) w := by kernel_rfl
theorem directE (w : World) : (Rtype.directlyAssignable 49 49).run Try.prog w = .ok true w := by kernel_rfl
theorem sizeE (w : World) : (sizeOf 49).run Try.prog w = .ok 1 w := by kernel_rfl
theorem valueOfE (k : Int) (w : World) : (ReflectliteValue.unpack (.iface 49 (.int .i64 k))).run Try.prog w
    = .ok (.agg #[.pointer (some ⟨1, 49, none⟩), .pointer (some ⟨w.heap.size, 0, none⟩), .int .u64 130]) (w.alloc (.cells #[.int .i64 k] 49)) := by kernel_rfl
theorem setE (ta b : Addr) (k : Int) (old : Value) (W : World) (hb : W.cell? b = some (.int .i64 k)) (ht : W.cell? ta = some old) (hf : W.frozen? ta = false) :
    (ReflectliteValue.set #[.agg #[.pointer (some ⟨1, 49, none⟩), .pointer (some ta), .int .u64 386], .agg #[.pointer (some ⟨1, 49, none⟩), .pointer (some b), .int .u64 130]]).run Try.prog W
      = .ok (.tuple #[]) (W.setCell ta (.int .i64 k)) := by
  rw [rls]
  simp only [Sem.run_bind, partsEa, partsE, Result.andThen]
  simp [ReflectliteValue.flagAddr, loadVar, isAgg, underlying, undE, hb, Result.andThen, directE, storeVar, Value.cells, storeCells, Addr.add]
  rw [run_store Try.prog W ta _ _ (by rfl)]
  simp [ht, hf]

theorem kindF (w : World) : ((ReflectliteType.abiMethod fun t => (fun a : Nat => Value.int IntKind.u8 (a : Int)) <$> Rtype.kind t) #[.pointer (some ⟨1, 55, none⟩)]).run Try.prog w = .ok (.int .u8 22) w := by kernel_rfl
theorem undF : Try.prog.underlying 55 = some (.pointer 57) := by kernel_rfl
theorem mkF (p : Addr) (w : World) : (ReflectliteValue.mk 55 p ReflectliteValue.flagAddr).run Try.prog w = .ok (.agg #[.pointer (some ⟨1, 55, none⟩), .pointer (some p), .int .u64 406]) w := by kernel_rfl
theorem partsFa (a : Addr) (w : World) : (ReflectliteValue.parts (.agg #[.pointer (some ⟨1, 55, none⟩), .pointer (some a), .int .u64 406])).run Try.prog w = .ok (some (55, a, 406)) w := by kernel_rfl
theorem partsF (a : Addr) (w : World) : (ReflectliteValue.parts (.agg #[.pointer (some ⟨1, 55, none⟩), .pointer (some a), .int .u64 150])).run Try.prog w = .ok (some (55, a, 150)) w := by kernel_rfl
theorem directF (w : World) : (Rtype.directlyAssignable 55 55).run Try.prog w = .ok true w := by kernel_rfl
theorem sizeF (w : World) : (sizeOf 55).run Try.prog w = .ok 1 w := by kernel_rfl
theorem valueOfF (e : Addr) (w : World) : (ReflectliteValue.unpack (.iface 55 (.pointer (some e)))).run Try.prog w
    = .ok (.agg #[.pointer (some ⟨1, 55, none⟩), .pointer (some ⟨w.heap.size, 0, none⟩), .int .u64 150]) (w.alloc (.cells #[.pointer (some e)] 55)) := by kernel_rfl
theorem setF (ta b : Addr) (e : Addr) (old : Value) (W : World) (hb : W.cell? b = some (.pointer (some e))) (ht : W.cell? ta = some old) (hf : W.frozen? ta = false) :
    (ReflectliteValue.set #[.agg #[.pointer (some ⟨1, 55, none⟩), .pointer (some ta), .int .u64 406], .agg #[.pointer (some ⟨1, 55, none⟩), .pointer (some b), .int .u64 150]]).run Try.prog W
      = .ok (.tuple #[]) (W.setCell ta (.pointer (some e))) := by
  rw [rls]
  simp only [Sem.run_bind, partsFa, partsF, Result.andThen]
  simp [ReflectliteValue.flagAddr, loadVar, isAgg, underlying, undF, hb, Result.andThen, directF, storeVar, Value.cells, storeCells, Addr.add]
  rw [run_store Try.prog W ta _ _ (by rfl)]
  simp [ht, hf]

end Go.Proofs.Ytpfmhohldfnhmaa
set_option linter.unusedVariables false
set_option linter.unusedSimpArgs false
namespace Go.Proofs.Ytpfmhohldfnhmaa
open Go.RowKit Go.Extern.Stop Go.Stop Go.Extern Lk
/-- An error: faults at places 'ats', around a number. -/
def ErV (w : World) : List Int → Int → Value → Prop
  | [], k, v => v = .iface 49 (.int .i64 k)
  | a :: r, k, v => ∃ g u, v = .iface 55 (.pointer (some ⟨g, 0, none⟩)) ∧ w.heap[g]? = some (.cells #[.int .i64 a, u] 57 (0, 0)) ∧ ErV w r k u
theorem ErV.below {w w1 : World} : ∀ {ats : List Int} {k : Int} {v : Value} (_ : ErV w ats k v) (_ : Below w.heap.size w w1), ErV w1 ats k v
  | [], _, _, h, _ => h
  | _ :: _, _, _, ⟨g, u, e, hc, hr⟩, hL => ⟨g, u, e, by
      have hg : g < w.heap.size := (Array.getElem?_eq_some_iff.1 hc).1
      rw [hL.block g hg]; exact hc, ErV.below hr hL⟩
theorem ErV.ne {w : World} : ∀ {ats : List Int} {k : Int} {v : Value} (_ : ErV w ats k v), v ≠ .nilIface
  | [], _, _, h => by intro e; rw [e] at h; cases h
  | _ :: _, _, _, ⟨g, u, e, _, _⟩ => by intro e'; rw [e'] at e; cases e
theorem ErV.form {w : World} : ∀ {ats : List Int} {k : Int} {v : Value} (_ : ErV w ats k v), ∃ T x, v = .iface T x
  | [], _, _, h => ⟨_, _, h⟩
  | _ :: _, _, _, ⟨_, _, e, _, _⟩ => ⟨_, _, e⟩
theorem below_mr {w w1 w2 : World} {B B' : Nat} (h : Below B w w1) (h' : Below B' w1 w2) (hB : B ≤ B') : Below B w w2 := h.trans (h'.mono hB)
end Go.Proofs.Ytpfmhohldfnhmaa
set_option linter.unusedVariables false
set_option linter.unusedSimpArgs false
namespace Lk
open Go Go.RowKit
def podd (c : UInt8) : Bool := Lib.onesCount c.toNat % 2 == 1
def podd1 (c : UInt8) : UInt8 := if podd c then c else c ^^^ 1
def oddTo (l : List UInt8) (k : Nat) : List UInt8 := (List.range l.length).map fun i => if i < k then podd1 (g8 l i) else g8 l i
def podds (l : List UInt8) : List UInt8 := oddTo l l.length
theorem oddTo_len (l : List UInt8) (k : Nat) : (oddTo l k).length = l.length := by unfold oddTo; simp
theorem podds_len (l : List UInt8) : (podds l).length = l.length := oddTo_len _ _
theorem oddTo_at (l : List UInt8) (k i : Nat) (hi : i < l.length) : g8 (oddTo l k) i = if i < k then podd1 (g8 l i) else g8 l i := by
  unfold oddTo
  rw [g8_lt (by simpa using hi)]
  simp
theorem oddTo_zero (l : List UInt8) : oddTo l 0 = l := same_ext (oddTo_len _ _) fun i hi => by
  rw [oddTo_at l 0 i (by rw [oddTo_len] at hi; exact hi), if_neg (by omega)]
theorem oddTo_next (l : List UInt8) (k : Nat) (hk : k < l.length) (x : UInt8) (hx : x = podd1 (g8 l k)) : (oddTo l k).set k x = oddTo l (k + 1) := by
  refine same_ext (by simp [oddTo_len]) fun i hi => ?_
  rw [List.length_set, oddTo_len] at hi
  rw [oddTo_at l (k + 1) i hi]
  by_cases hik : i = k
  · subst hik
    rw [if_pos (by omega), ← hx, g8_lt (by rw [List.length_set, oddTo_len]; exact hi)]
    simp
  · have : g8 ((oddTo l k).set k x) i = g8 (oddTo l k) i := by
      unfold g8
      rw [List.getD_eq_getElem?_getD, List.getD_eq_getElem?_getD, List.getElem?_set_ne (Ne.symm hik)]
    rw [this, oddTo_at l k i hi]
    by_cases h : i < k
    · rw [if_pos h, if_pos (by omega)]
    · rw [if_neg h, if_neg (by omega)]
theorem oddTo_stay (l : List UInt8) (k : Nat) (hk : k < l.length) (h : podd (g8 l k) = true) : oddTo l k = oddTo l (k + 1) := by
  refine same_ext (by simp [oddTo_len]) fun i hi => ?_
  rw [oddTo_len] at hi
  rw [oddTo_at l k i hi, oddTo_at l (k + 1) i hi]
  by_cases hik : i = k
  · subst hik
    rw [if_neg (by omega), if_pos (by omega)]
    unfold podd1
    rw [if_pos h]
  · by_cases h : i < k
    · rw [if_pos h, if_pos (by omega)]
    · rw [if_neg h, if_neg (by omega)]
end Lk
namespace Go.Proofs.Ytpfmhohldfnhmaa
open Go.RowKit Lk
theorem own_cap {w : World} {base : Nat} {A : Option Addr} {L c : Nat} {l : List UInt8} (h : Own w base (.slice A L c) l) : c ≤ maxLen := by
  obtain ⟨A', c', e, _, _, h2, _⟩ := h.slB
  simp only [Value.slice.injEq] at e
  rw [e.2.2]; exact h2
end Go.Proofs.Ytpfmhohldfnhmaa
set_option linter.unusedVariables false
set_option linter.unusedSimpArgs false
namespace Lk
open Go Go.RowKit
def firstFrom : List UInt8 → Nat → Int
  | [], _ => -1
  | c :: r, i => if podd c then firstFrom r (i + 1) else i
def pfirst (l : List UInt8) : Int := firstFrom l 0
theorem drop_one (l : List UInt8) (k : Nat) (hk : k < l.length) : l.drop k = g8 l k :: l.drop (k + 1) := by
  rw [List.drop_eq_getElem_cons hk, g8_lt hk]
theorem first_odd (l : List UInt8) (k : Nat) (hk : k < l.length) (h : podd (g8 l k) = true) : firstFrom (l.drop k) k = firstFrom (l.drop (k + 1)) (k + 1) := by
  rw [drop_one l k hk, firstFrom, if_pos h]
theorem first_even (l : List UInt8) (k : Nat) (hk : k < l.length) (h : podd (g8 l k) = false) : firstFrom (l.drop k) k = k := by
  rw [drop_one l k hk, firstFrom, if_neg (by rw [h]; decide)]
theorem first_end (l : List UInt8) (k : Nat) (hk : l.length ≤ k) : firstFrom (l.drop k) k = -1 := by
  rw [List.drop_eq_nil_of_le hk, firstFrom]
def sumTo (c : UInt8) (j : Nat) : Int := ((byteBits c).take j).sum
theorem sumTo_next (c : UInt8) (j : Nat) (hj : j < 8) : sumTo c (j + 1) = sumTo c j + (byteBits c).getD j 0 := by
  unfold sumTo
  have h8 : j < (byteBits c).length := by rw [byteBits_len]; exact hj
  rw [List.take_succ_eq_append_getElem h8, List.sum_append, List.getD_eq_getElem?_getD, List.getElem?_eq_getElem h8, Option.getD_some, List.sum_cons, List.sum_nil, Int.add_zero]
theorem bit_01 (c : UInt8) (j : Nat) : 0 ≤ (byteBits c).getD j 0 ∧ (byteBits c).getD j 0 ≤ 1 := by
  rcases Nat.lt_or_ge j 8 with h | h
  · simp [byteBits, List.getD_eq_getElem?_getD, h, pbit]
    omega
  · have : (byteBits c).getD j 0 = 0 := by rw [List.getD_eq_getElem?_getD, List.getElem?_eq_none (by rw [byteBits_len]; exact h)]; rfl
    rw [this]; decide
theorem sumTo_bd (c : UInt8) (j : Nat) : 0 ≤ sumTo c j ∧ sumTo c j ≤ 8 := by
  have h : ∀ j, j ≤ 8 → 0 ≤ sumTo c j ∧ sumTo c j ≤ j := by
    intro j
    induction j with
    | zero => intro _; simp [sumTo]
    | succ j ih =>
      intro hj
      have := ih (by omega)
      rw [sumTo_next c j (by omega)]
      have := bit_01 c j
      omega
  rcases Nat.lt_or_ge j 8 with h8 | h8
  · have := h j (by omega); omega
  · have := h 8 (by omega)
    have e : sumTo c j = sumTo c 8 := by unfold sumTo; rw [List.take_of_length_le (by rw [byteBits_len]; exact h8), List.take_of_length_le (by rw [byteBits_len]; omega)]
    rw [e]; omega
theorem sum_all : allB (fun c => (decide (sumTo c 8 % 2 = 0)) == !podd c) = true := by decide +kernel
theorem sum_podd (c : UInt8) : decide (sumTo c 8 % 2 = 0) = !podd c := by simpa using allB_spec sum_all c
theorem pbits_one (c : UInt8) : pbits [c] = byteBits c := by simp [pbits]
end Lk
set_option linter.unusedVariables false
set_option linter.unusedSimpArgs false
namespace Lk
open Go Go.RowKit
theorem podds_map (l : List UInt8) : podds l = l.map podd1 := by
  refine same_ext (by rw [podds_len, List.length_map]) fun i hi => ?_
  rw [podds_len] at hi
  unfold podds
  rw [oddTo_at l _ i hi, if_pos hi, g8_lt (l := l.map podd1) (by simpa using hi)]
  simp [g8_lt hi]
theorem podds_take (l : List UInt8) (k : Nat) (hk : k < l.length) : podds (l.take (k + 1)) = podds (l.take k) ++ [podd1 (g8 l k)] := by
  rw [podds_map, podds_map, take_one l k hk, List.map_append]; rfl
theorem low_all : allB (fun c => (Nat.beq (Nat.mod c.toNat 2) 1 && Nat.beq (c ^^^ 1).toNat (Nat.sub c.toNat 1)) || (Nat.beq (Nat.mod c.toNat 2) 0 && Nat.beq (c ^^^ 1).toNat (Nat.add c.toNat 1))) = true := by decide +kernel
theorem low_spec (c : UInt8) : (bv c % 2 = 1 ∧ bv (c ^^^ 1) = bv c - 1) ∨ (bv c % 2 = 0 ∧ bv (c ^^^ 1) = bv c + 1) := by
  have h := allB_spec low_all c
  simp only [Bool.or_eq_true, Bool.and_eq_true, Nat.beq_eq_true_eq] at h
  unfold bv
  rcases h with ⟨h1, h2⟩ | ⟨h1, h2⟩
  · left
    have h1 : c.toNat % 2 = 1 := Nat.eq_of_beq_eq_true h1
    have h2 : (c ^^^ 1).toNat = c.toNat - 1 := Nat.eq_of_beq_eq_true h2
    omega
  · right
    have h1 : c.toNat % 2 = 0 := Nat.eq_of_beq_eq_true h1
    have h2 : (c ^^^ 1).toNat = c.toNat + 1 := Nat.eq_of_beq_eq_true h2
    omega
/-- 0: a key's length may be; else the error -/
def psz (kind : Int) (n : Nat) : Int := if kind ≠ 1 ∧ kind ≠ 2 then 1 else if n = 16 ∨ n = 24 ∨ (kind = 1 ∧ n = 32) then 0 else 2
end Lk
namespace Go.Proofs.Ytpfmhohldfnhmaa
open Go.RowKit Lk
end Go.Proofs.Ytpfmhohldfnhmaa
set_option linter.unusedVariables false
set_option linter.unusedSimpArgs false
namespace Go.Proofs.Ytpfmhohldfnhmaa
open Go.RowKit Lk
end Go.Proofs.Ytpfmhohldfnhmaa
set_option linter.unusedVariables false
set_option linter.unusedSimpArgs false
namespace Lk
open Go Go.RowKit
theorem first_one (c : UInt8) : pfirst [c] = if podd c then -1 else 0 := by
  unfold pfirst
  rw [firstFrom]
  split <;> simp [firstFrom]
end Lk
namespace Go.Proofs.Ytpfmhohldfnhmaa
open Go.RowKit Lk
end Go.Proofs.Ytpfmhohldfnhmaa
set_option linter.unusedVariables false
set_option linter.unusedSimpArgs false
namespace Go.Proofs.Ytpfmhohldfnhmaa
open Go.RowKit Lk
/-- 0: no error -/
def errv (k : Int) : Value := if k = 0 then .nilIface else .iface 49 (.int .i64 k)
theorem errv_0 : errv 0 = .nilIface := rfl
theorem errv_k {k : Int} (h : k ≠ 0) : errv k = .iface 49 (.int .i64 k) := by unfold errv; rw [if_neg h]
/-- what is wrong: nothing, or a number with places around it -/
def ErO (w : World) : Option (List Int × Int) → Value → Prop
  | none, v => v = .nilIface
  | some p, v => ErV w p.1 p.2 v
theorem ErO.below {w w1 : World} {r : Option (List Int × Int)} {v : Value} (h : ErO w r v) (hL : Below w.heap.size w w1) : ErO w1 r v := by
  cases r with
  | none => exact h
  | some p => exact ErV.below h hL
/-- what is wrong with a key -/
def pright (kind : Int) (l : List UInt8) : Option (List Int × Int) :=
  if psz kind l.length ≠ 0 then some ([], psz kind l.length) else if kind = 2 ∧ 0 ≤ pfirst l then some ([pfirst l], 3) else none
theorem first_bd : ∀ (l : List UInt8) (i : Nat), firstFrom l i = -1 ∨ ((i : Int) ≤ firstFrom l i ∧ firstFrom l i < (i : Int) + (l.length : Int)) := by
  intro l
  induction l with
  | nil => intro i; left; rfl
  | cons c r ih =>
    intro i
    rw [firstFrom]
    split
    · rcases ih (i + 1) with h | h
      · left; exact h
      · right; simp; omega
    · right; simp; omega
end Go.Proofs.Ytpfmhohldfnhmaa
