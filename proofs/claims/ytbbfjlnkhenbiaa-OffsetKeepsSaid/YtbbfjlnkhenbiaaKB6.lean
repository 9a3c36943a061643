/- The reference's bits and bytes. -/
import Derived.Test.YtbbfjlnkhenbiaaKB5
import Derived.BigFrame
import Derived.Test.YtbbfjlnkhenbiaaProg
import Derived.WalkKit
import Derived.LaidEql
import Derived.Stop.Asserts
import Derived.RowKitTokens
import Derived.Test.YtbbfjlnkhenbiaaKB0
import Derived.Deep.LoopGhost
set_option linter.unusedVariables false
set_option linter.unusedSimpArgs false
namespace Lk
open Go Go.RowKit
def pbit (c : UInt8) (i : Nat) : Int := ((c.toNat / 2 ^ i % 2 : Nat) : Int)
def byteBits (c : UInt8) : List Int := (List.range 8).map fun j => pbit c (7 - j)
def pbits : List UInt8 → List Int
  | [] => []
  | c :: r => byteBits c ++ pbits r
theorem pbits_app (a b : List UInt8) : pbits (a ++ b) = pbits a ++ pbits b := by
  induction a with
  | nil => rfl
  | cons c r ih => simp [pbits, ih]
theorem byteBits_len (c : UInt8) : (byteBits c).length = 8 := by simp [byteBits]
theorem pbits_len (l : List UInt8) : (pbits l).length = 8 * l.length := by
  induction l with
  | nil => rfl
  | cons c r ih => simp [pbits, ih, byteBits_len]; omega
theorem take_one (l : List UInt8) (k : Nat) (hk : k < l.length) : l.take (k + 1) = l.take k ++ [g8 l k] := by
  rw [List.take_succ_eq_append_getElem hk, g8_lt hk]
theorem pbits_take (l : List UInt8) (k : Nat) (hk : k < l.length) : pbits (l.take (k + 1)) = pbits (l.take k) ++ byteBits (g8 l k) := by
  rw [take_one l k hk, pbits_app]
  simp [pbits]
theorem byteBits_take (c : UInt8) (s : Nat) (hs : s < 8) : (byteBits c).take (7 - s) ++ [pbit c s] = (byteBits c).take (8 - s) := by
  rw [show 8 - s = (7 - s) + 1 by omega, List.take_succ_eq_append_getElem (by rw [byteBits_len]; omega)]
  congr 1
  simp [byteBits]
  congr 1
  omega
theorem and_pbit (c : UInt8) (s : Nat) : Go.bits .and .i64 (bv c / (2 : Int) ^ s) 1 = pbit c s := by
  have h : bv c / (2 : Int) ^ s = ((c.toNat / 2 ^ s : Nat) : Int) := by unfold bv; norm_cast
  have hc := c.toNat_lt
  have hd := Nat.div_le_self c.toNat (2 ^ s)
  rw [h, show (1 : Int) = ((1 : Nat) : Int) from rfl, bits_and_i64 _ _ (by omega) (by omega)]
  unfold pbit
  rw [Nat.and_one_is_mod]
end Lk
namespace Go.Proofs.Ytbbfjlnkhenbiaa
open Go.RowKit Lk
end Go.Proofs.Ytbbfjlnkhenbiaa
set_option linter.unusedVariables false
set_option linter.unusedSimpArgs false
namespace Lk
open Go Go.RowKit
section
variable {P : Program} {ops : Array Oper} {rest : List Oper} {o : Oper} {a : Act} {w : World} {Q : Exit → Act → World → Prop}
theorem store_o (hgd : o.guard = none) (ty : TypeId) (x y : Operand) (ho : o.op = .store ty x y) (base g k L c : Nat) (l : List UInt8) (ch : UInt8) (hx : a.eval x = .pointer (some ⟨g, k, none⟩)) (z : Int) (hy : a.eval y = .int .u8 z) (hz : z = bv ch) (hO : Own w base (.slice (some ⟨g, 0, none⟩) L c) l) (hk : k < l.length)
    (hi : (P.info? ty).map (·.size) = some 1)
    (h : ∀ w1, Own w1 base (.slice (some ⟨g, 0, none⟩) L c) (l.set k ch) → w.grownBy w1 (some g) → w1.heap.size = w.heap.size → wpList P ops Q rest (a.put o.dst undef) w1) : wpList P ops Q (o :: rest) a w :=
  wpList_plain hgd fun _ hK => by
    subst hz
    have e : L = l.length := hO.len
    subst e
    unfold Oper.wp execOp
    simp only [ho, hx, hy, Instr.storeAt, Instr.sureAddr, Sem.run_bind, Sem.run_pure, Result.andThen_ok, run_storeVar_one w g k ty _ (.int .u8 (bv ch)) (hO.cell k hk) (hO.free k) rfl hi]
    exact hK _ _ (h _ (hO.stored k ch) (grown_set (grown_refl _ _) _ _) (World.size_setCell ..))
/-- a whole array of bytes read, the operation guarded and wanted -/
theorem load_blk_g (hw : Region.wanted o (yielded ops a.tmps) = true) (ty : TypeId) (x : Operand) (ho : o.op = .load ty x) (g T n e : Nat) (l : List UInt8) (hx : a.eval x = .pointer (some ⟨g, 0, none⟩)) (hB : Blk w g T l) (hl : l.length = n)
    (hu : P.underlying ty = some (.array n e)) (hi : (P.info? ty).map (·.size) = some n)
    (h : wpList P ops Q rest (a.put o.dst (.agg (Bs l))) w) : wpList P ops Q (o :: rest) a w :=
  wpList_step fun K hK => by
    simp only [hw, if_true]
    unfold Oper.wp execOp
    simp only [ho, hx, Instr.loadAt, Instr.sureAddr, Sem.run_bind, Sem.run_pure, Result.andThen_ok, run_loadVar_row w g T ty (Bs l) (0, 0) _ hB hu rfl (by rw [Bs_size, hl, hi])]
    exact hK _ _ h
end
end Lk
set_option linter.unusedVariables false
set_option linter.unusedSimpArgs false
namespace Lk
open Go Go.RowKit Go.Extern.Stop Go.Stop Go.Extern
theorem rlm (z : Sem Value) (f : TypeId → Addr → Nat → Nat → Sem Value) (v : Value) :
    ReflectliteValue.method z f #[v] = (do match ← ReflectliteValue.parts v with | none => z | some (t, a, fl) => f t a fl (fl % 32)) := rfl
theorem rls (v x : Value) : ReflectliteValue.set #[v, x] = (do
    let (some (dst, a, fl), some (src, b, _)) := (← ReflectliteValue.parts v, ← ReflectliteValue.parts x)
      | unsupported (.noEntry "extern/(internal/reflectlite.Value).Set.zeroValue")
    if fl / ReflectliteValue.flagAddr % 2 == 0 then unsupported (.noEntry "extern/(internal/reflectlite.Value).Set.unaddressable")
    let val ← loadVar src b
    if ← Rtype.directlyAssignable dst src then storeVar dst a val
    else if ← Rtype.implements dst src then
      if (← Rtype.kind src) == 20 then
        match val with
        | .nilIface => unsupported (.noEntry "extern/reflectlite: a nil value of one interface type handed on as a value of another")
        | _ => storeVar dst a val
      else storeVar dst a (.iface src val)
    else panicString ("reflectlite.Set: value of type " ++ (← Rtype.spelt src) ++ " is not assignable to type " ++ (← Rtype.spelt dst))
    pure (.tuple #[])) := rfl
end Lk
namespace Go.Proofs.Ytbbfjlnkhenbiaa
open Go.RowKit Go.Extern.Stop Go.Stop Go.Extern Lk
def hnd (t : Nat) : Value := .pointer (some ⟨1, t, none⟩)

theorem kindE (w : World) : ((ReflectliteType.abiMethod fun t => (fun a : Nat => Value.int IntKind.u8 (a : Int)) <$> Rtype.kind t) #[.pointer (some ⟨1, 37, none⟩)]).run Try.prog w = .ok (.int .u8 2) w := by kernel_rfl
theorem undE : Try.prog.underlying 37 = some (.int .i64) := by kernel_rfl
theorem mkE (p : Addr) (w : World) : (ReflectliteValue.mk 37 p ReflectliteValue.flagAddr).run Try.prog w = .ok (.agg #[.pointer (some ⟨1, 37, none⟩), .pointer (some p), .int .u64 386]) w := by kernel_rfl
theorem partsEa (a : Addr) (w : World) : (ReflectliteValue.parts (.agg #[.pointer (some ⟨1, 37, none⟩), .pointer (some a), .int .u64 386])).run Try.prog w = .ok (some (37, a, 386)) w := by kernel_rfl
theorem partsE (a : Addr) (w : World) : (ReflectliteValue.parts (.agg #[.pointer (some ⟨1, 37, none⟩), .pointer (some a), .int .u64 130])).run Try.prog w = .ok (some (37, a, 130)) w := by kernel_rfl
theorem directE (w : World) : (Rtype.directlyAssignable 37 37).run Try.prog w = .ok true w := by kernel_rfl
theorem sizeE (w : World) : (sizeOf 37).run Try.prog w = .ok 1 w := by kernel_rfl
theorem valueOfE (k : Int) (w : World) : (ReflectliteValue.unpack (.iface 37 (.int .i64 k))).run Try.prog w
    = .ok (.agg #[.pointer (some ⟨1, 37, none⟩), .pointer (some ⟨w.heap.size, 0, none⟩), .int .u64 130]) (w.alloc (.cells #[.int .i64 k] 37)) := by kernel_rfl
theorem setE (ta b : Addr) (k : Int) (old : Value) (W : World) (hb : W.cell? b = some (.int .i64 k)) (ht : W.cell? ta = some old) (hf : W.frozen? ta = false) :
    (ReflectliteValue.set #[.agg #[.pointer (some ⟨1, 37, none⟩), .pointer (some ta), .int .u64 386], .agg #[.pointer (some ⟨1, 37, none⟩), .pointer (some b), .int .u64 130]]).run Try.prog W
      = .ok (.tuple #[]) (W.setCell ta (.int .i64 k)) := by
  rw [rls]
  simp only [Sem.run_bind, partsEa, partsE, Result.andThen]
  simp [ReflectliteValue.flagAddr, loadVar, isAgg, underlying, undE, hb, Result.andThen, directE, storeVar, Value.cells, storeCells, Addr.add]
  rw [run_store Try.prog W ta _ _ (by rfl)]
  simp [ht, hf]

theorem kindF (w : World) : ((ReflectliteType.abiMethod fun t => (fun a : Nat => Value.int IntKind.u8 (a : Int)) <$> Rtype.kind t) #[.pointer (some ⟨1, 72, none⟩)]).run Try.prog w = .ok (.int .u8 22) w := by kernel_rfl
theorem undF : Try.prog.underlying 72 = some (.pointer 74) := by kernel_rfl
theorem mkF (p : Addr) (w : World) : (ReflectliteValue.mk 72 p ReflectliteValue.flagAddr).run Try.prog w = .ok (.agg #[.pointer (some ⟨1, 72, none⟩), .pointer (some p), .int .u64 406]) w := by kernel_rfl
theorem partsFa (a : Addr) (w : World) : (ReflectliteValue.parts (.agg #[.pointer (some ⟨1, 72, none⟩), .pointer (some a), .int .u64 406])).run Try.prog w = .ok (some (72, a, 406)) w := by kernel_rfl
theorem partsF (a : Addr) (w : World) : (ReflectliteValue.parts (.agg #[.pointer (some ⟨1, 72, none⟩), .pointer (some a), .int .u64 150])).run Try.prog w = .ok (some (72, a, 150)) w := by kernel_rfl
theorem directF (w : World) : (Rtype.directlyAssignable 72 72).run Try.prog w = .ok true w := by kernel_rfl
theorem sizeF (w : World) : (sizeOf 72).run Try.prog w = .ok 1 w := by kernel_rfl
theorem valueOfF (e : Addr) (w : World) : (ReflectliteValue.unpack (.iface 72 (.pointer (some e)))).run Try.prog w
    = .ok (.agg #[.pointer (some ⟨1, 72, none⟩), .pointer (some ⟨w.heap.size, 0, none⟩), .int .u64 150]) (w.alloc (.cells #[.pointer (some e)] 72)) := by kernel_rfl
theorem setF (ta b : Addr) (e : Addr) (old : Value) (W : World) (hb : W.cell? b = some (.pointer (some e))) (ht : W.cell? ta = some old) (hf : W.frozen? ta = false) :
    (ReflectliteValue.set #[.agg #[.pointer (some ⟨1, 72, none⟩), .pointer (some ta), .int .u64 406], .agg #[.pointer (some ⟨1, 72, none⟩), .pointer (some b), .int .u64 150]]).run Try.prog W
      = .ok (.tuple #[]) (W.setCell ta (.pointer (some e))) := by
  rw [rls]
  simp only [Sem.run_bind, partsFa, partsF, Result.andThen]
  simp [ReflectliteValue.flagAddr, loadVar, isAgg, underlying, undF, hb, Result.andThen, directF, storeVar, Value.cells, storeCells, Addr.add]
  rw [run_store Try.prog W ta _ _ (by rfl)]
  simp [ht, hf]

end Go.Proofs.Ytbbfjlnkhenbiaa
set_option linter.unusedVariables false
set_option linter.unusedSimpArgs false
namespace Go.Proofs.Ytbbfjlnkhenbiaa
open Go.RowKit Go.Extern.Stop Go.Stop Go.Extern Lk
/-- An error: faults at places 'ats', around a number. -/
def ErV (w : World) : List Int → Int → Value → Prop
  | [], k, v => v = .iface 37 (.int .i64 k)
  | a :: r, k, v => ∃ g u, v = .iface 72 (.pointer (some ⟨g, 0, none⟩)) ∧ w.heap[g]? = some (.cells #[.int .i64 a, u] 74 (0, 0)) ∧ ErV w r k u
theorem ErV.below {w w1 : World} : ∀ {ats : List Int} {k : Int} {v : Value} (_ : ErV w ats k v) (_ : Below w.heap.size w w1), ErV w1 ats k v
  | [], _, _, h, _ => h
  | _ :: _, _, _, ⟨g, u, e, hc, hr⟩, hL => ⟨g, u, e, by
      have hg : g < w.heap.size := (Array.getElem?_eq_some_iff.1 hc).1
      rw [hL.block g hg]; exact hc, ErV.below hr hL⟩
theorem ErV.ne {w : World} : ∀ {ats : List Int} {k : Int} {v : Value} (_ : ErV w ats k v), v ≠ .nilIface
  | [], _, _, h => by intro e; rw [e] at h; cases h
  | _ :: _, _, _, ⟨g, u, e, _, _⟩ => by intro e'; rw [e'] at e; cases e
theorem ErV.form {w : World} : ∀ {ats : List Int} {k : Int} {v : Value} (_ : ErV w ats k v), ∃ T x, v = .iface T x
  | [], _, _, h => ⟨_, _, h⟩
  | _ :: _, _, _, ⟨_, _, e, _, _⟩ => ⟨_, _, e⟩
theorem below_mr {w w1 w2 : World} {B B' : Nat} (h : Below B w w1) (h' : Below B' w1 w2) (hB : B ≤ B') : Below B w w2 := h.trans (h'.mono hB)
end Go.Proofs.Ytbbfjlnkhenbiaa
