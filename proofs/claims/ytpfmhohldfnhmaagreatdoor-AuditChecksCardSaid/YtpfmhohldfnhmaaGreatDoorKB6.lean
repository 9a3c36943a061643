/- The reference's bits and bytes. -/
import Derived.Test.YtpfmhohldfnhmaaGreatDoorKB5
import Derived.BigFrame
import Derived.Test.YtpfmhohldfnhmaaGreatDoorProg
import Derived.WalkKit
import Derived.LaidEql
import Derived.Stop.Asserts
import Derived.RowKitTokens
import Derived.Test.YtpfmhohldfnhmaaGreatDoorKB0
import Derived.Deep.LoopGhost
import Derived.Test.YtpfmhohldfnhmaaGreatDoorKB4
import Derived.Lib.BitFns
import Derived.Lib.Tables
import Derived.Outline
set_option linter.unusedVariables false
set_option linter.unusedSimpArgs false
namespace Lk
open Go Go.RowKit
def pbit (c : UInt8) (i : Nat) : Int := ((c.toNat / 2 ^ i % 2 : Nat) : Int)
def byteBits (c : UInt8) : List Int := (List.range 8).map fun j => pbit c (7 - j)
def pbits : List UInt8 → List Int
  | [] => []
  | c :: r => byteBits c ++ pbits r
theorem pbits_app (a b : List UInt8) : pbits (a ++ b) = pbits a ++ pbits b := by
  induction a with
  | nil => rfl
  | cons c r ih => simp [pbits, ih]
theorem byteBits_len (c : UInt8) : (byteBits c).length = 8 := by simp [byteBits]
theorem pbits_len (l : List UInt8) : (pbits l).length = 8 * l.length := by
  induction l with
  | nil => rfl
  | cons c r ih => simp [pbits, ih, byteBits_len]; omega
theorem take_one (l : List UInt8) (k : Nat) (hk : k < l.length) : l.take (k + 1) = l.take k ++ [g8 l k] := by
  rw [List.take_succ_eq_append_getElem hk, g8_lt hk]
theorem pbits_take (l : List UInt8) (k : Nat) (hk : k < l.length) : pbits (l.take (k + 1)) = pbits (l.take k) ++ byteBits (g8 l k) := by
  rw [take_one l k hk, pbits_app]
  simp [pbits]
theorem byteBits_take (c : UInt8) (s : Nat) (hs : s < 8) : (byteBits c).take (7 - s) ++ [pbit c s] = (byteBits c).take (8 - s) := by
  rw [show 8 - s = (7 - s) + 1 by omega, List.take_succ_eq_append_getElem (by rw [byteBits_len]; omega)]
  congr 1
  simp [byteBits]
  congr 1
  omega
theorem and_pbit (c : UInt8) (s : Nat) : Go.bits .and .i64 (bv c / (2 : Int) ^ s) 1 = pbit c s := by
  have h : bv c / (2 : Int) ^ s = ((c.toNat / 2 ^ s : Nat) : Int) := by unfold bv; norm_cast
  have hc := c.toNat_lt
  have hd := Nat.div_le_self c.toNat (2 ^ s)
  rw [h, show (1 : Int) = ((1 : Nat) : Int) from rfl, bits_and_i64 _ _ (by omega) (by omega)]
  unfold pbit
  rw [Nat.and_one_is_mod]
end Lk
namespace Go.Proofs.YtpfmhohldfnhmaaGreatDoor
open Go.RowKit Lk
set_option maxHeartbeats 1000000 in
set_option maxRecDepth 100000 in
theorem Bits_any (v : Value) (l : List UInt8) (w : World) (h : SlB w v l) (hl : l.length ≤ 1000) :
    Calls Tryz.prog 99 #[v] w fun e w' => ∃ v', e = .returned v' ∧ OwnV w' w.heap.size intt v' (Is (pbits l)) ∧ Below w.heap.size w w' := by
  obtain ⟨N, hN⟩ : ∃ N, w.heap.size = N := ⟨_, rfl⟩
  obtain ⟨L, hL⟩ : ∃ L, l.length = L := ⟨_, rfl⟩
  have HN := Lib.hid hN
  have EL := Lib.hid hL
  obtain ⟨A, c, rfl, n1, n2, n3, n4⟩ := h
  rw [hL] at hl n2 ⊢
  have N4 := Lib.hid n4
  clear hN hL n1 n4
  have ho0 : OwnV w N intt (.slice none 0 0) (Is (pbits (l.take 0))) := ownV_nil _ _ _
  have hL0 : Below N w w := Below.refl _ _
  go_enter Tryz.func99, Tryz.ntmps99
  go_wp2
  go_loopw [3, 4] (fun o i wr => ∃ k : Nat, k ≤ L ∧ i = .int .i64 k ∧ OwnV wr N intt o (Is (pbits (l.take k))) ∧ Below N w wr) (fun _ i _ => L - (intOf i).toNat)
  case atStart => exact ⟨0, by omega, rfl, ho0, hL0⟩
  case round =>
    clear ho0 hL0
    obtain ⟨k, hk, rfl, hO, hB⟩ := hrel
    by_cases hlt : k < L
    · obtain ⟨g, o, rfl, hr⟩ := N4.out (by omega)
      have hgN : g < N := by rw [← HN.out]; exact block_of_cell (hr 0 (by rw [EL.out]; omega))
      have HR := Lib.hid (show ∀ wq, Below N w wq → wq.cell? ⟨g, o + k, none⟩ = some (.int .u8 (bv (g8 l k))) from fun wq hq => cell_below (hr k (by rw [EL.out]; exact hlt)) hq hgN)
      have HLT := Lib.hid hlt
      have HO := Lib.hid hO
      have HB := Lib.hid hB
      clear hr hO hB
      go_wp2
      obtain ⟨wo, ewo⟩ : ∃ wo : World, wo = wr := ⟨_, rfl⟩
      subst ewo
      go_loopw [3, 5] (fun o i wr => ∃ r : Nat, r ≤ 8 ∧ i = .int .i64 ((r : Int) - 1) ∧ OwnV wr N intt o (Is (pbits (l.take k) ++ (byteBits (g8 l k)).take (8 - r))) ∧ Below N w wr) (fun _ i _ => (intOf i + 1).toNat)
      case atStart => exact ⟨8, by omega, rfl, by simpa using HO.out, HB.out⟩
      case round =>
        clear HO HB
        obtain ⟨r, hr8, rfl, hO, hB⟩ := hrel
        have HO := Lib.hid hO
        rcases r with _ | s
        · have HB := Lib.hid hB
          clear hO hB
          go_wp2
          go_roundw
          case rel =>
            refine ⟨k + 1, HLT.out, by go_num, ?_, HB.out⟩
            rw [pbits_take l k (by rw [EL.out]; exact HLT.out)]
            have := HO.out
            rw [List.take_of_length_le (l := byteBits (g8 l k)) (by rw [byteBits_len]; omega)] at this
            exact this
          case measure => have : k < L := HLT.out; simp [intOf]; omega
        · have c1 := HR.out _ hB
          have es : (((s + 1 : Nat) : Int) - 1) = (s : Int) := by omega
          rw [es]
          have HB := Lib.hid hB
          have HS := Lib.hid hr8
          have b0 := bv_ge (g8 l k)
          have b1 := bv_lt (g8 l k)
          have ea := and_pbit (g8 l k) s
          have hx := byteBits_take (g8 l k) s (by omega)
          have HX := Lib.hid hx
          clear hO hB es hx
          go_wp2_with (at_builtin; refine append_v hu_isl hi_int (by decide) (by decide) rfl rfl _ _ rfl N _ _ (by rfl) (HO.out.alloc _) _ [.int .i64 (pbit (g8 l k) s)] (by rfl) (one_slV _ _ _) (Is_one [pbit (g8 l k) s]) (by simp [Is_len, pbits_len, byteBits_len]; omega) (by simp; exact Nat.le_trans (Nat.le_of_eq HN.out.symm) (by have := HB.out.size; have := HN.out; omega)) ?_; intro v2 w2 hO2 hG2; have hB2 : Below N w w2 := below_own (below_alloc HB.out (by have := HB.out.size; have := HN.out; omega) _) (by simp; have := HB.out.size; have := HN.out; omega) hG2 (fun q hq => (HO.out.lt q hq).1))
          go_roundw
          case rel =>
            refine ⟨s, by have := HS.out; omega, by go_num, ?_, hB2⟩
            have h2 := hO2
            rw [show ([Value.int .i64 (pbit (g8 l k) s)] : List Value) = Is [pbit (g8 l k) s] from rfl, ← Is_app, List.append_assoc, show 8 - (s + 1) = 7 - s by omega, HX.out] at h2
            exact h2
          case measure => simp [intOf]
    · have HE := Lib.hid (show k = L by omega)
      have HO := Lib.hid hO
      have HB := Lib.hid hB
      clear hO hB
      go_wp2
      go_ret
      refine ⟨_, rfl, ?_, by rw [HN.out]; exact HB.out⟩
      have := HO.out
      rw [HE.out, List.take_of_length_le (by rw [EL.out]; exact Nat.le_refl _)] at this
      rw [HN.out]
      exact this
end Go.Proofs.YtpfmhohldfnhmaaGreatDoor
set_option linter.unusedVariables false
set_option linter.unusedSimpArgs false
namespace Lk
open Go Go.RowKit
section
variable {P : Program} {ops : Array Oper} {rest : List Oper} {o : Oper} {a : Act} {w : World} {Q : Exit → Act → World → Prop}
theorem store_o (hgd : o.guard = none) (ty : TypeId) (x y : Operand) (ho : o.op = .store ty x y) (base g k L c : Nat) (l : List UInt8) (ch : UInt8) (hx : a.eval x = .pointer (some ⟨g, k, none⟩)) (z : Int) (hy : a.eval y = .int .u8 z) (hz : z = bv ch) (hO : Own w base (.slice (some ⟨g, 0, none⟩) L c) l) (hk : k < l.length)
    (hi : (P.info? ty).map (·.size) = some 1)
    (h : ∀ w1, Own w1 base (.slice (some ⟨g, 0, none⟩) L c) (l.set k ch) → w.grownBy w1 (some g) → w1.heap.size = w.heap.size → wpList P ops Q rest (a.put o.dst undef) w1) : wpList P ops Q (o :: rest) a w :=
  wpList_plain hgd fun _ hK => by
    subst hz
    have e : L = l.length := hO.len
    subst e
    unfold Oper.wp execOp
    simp only [ho, hx, hy, Instr.storeAt, Instr.sureAddr, Sem.run_bind, Sem.run_pure, Result.andThen_ok, run_storeVar_one w g k ty _ (.int .u8 (bv ch)) (hO.cell k hk) (hO.free k) rfl hi]
    exact hK _ _ (h _ (hO.stored k ch) (grown_set (grown_refl _ _) _ _) (World.size_setCell ..))
/-- a whole array of bytes read, the operation guarded and wanted -/
theorem load_blk_g (hw : Region.wanted o (yielded ops a.tmps) = true) (ty : TypeId) (x : Operand) (ho : o.op = .load ty x) (g T n e : Nat) (l : List UInt8) (hx : a.eval x = .pointer (some ⟨g, 0, none⟩)) (hB : Blk w g T l) (hl : l.length = n)
    (hu : P.underlying ty = some (.array n e)) (hi : (P.info? ty).map (·.size) = some n)
    (h : wpList P ops Q rest (a.put o.dst (.agg (Bs l))) w) : wpList P ops Q (o :: rest) a w :=
  wpList_step fun K hK => by
    simp only [hw, if_true]
    unfold Oper.wp execOp
    simp only [ho, hx, Instr.loadAt, Instr.sureAddr, Sem.run_bind, Sem.run_pure, Result.andThen_ok, run_loadVar_row w g T ty (Bs l) (0, 0) _ hB hu rfl (by rw [Bs_size, hl, hi])]
    exact hK _ _ h
end
end Lk
set_option linter.unusedVariables false
set_option linter.unusedSimpArgs false
namespace Lk
open Go Go.RowKit Go.Extern.Stop Go.Stop Go.Extern
theorem rlm (z : Sem Value) (f : TypeId → Addr → Nat → Nat → Sem Value) (v : Value) :
    ReflectliteValue.method z f #[v] = (do match ← ReflectliteValue.parts v with | none => z | some (t, a, fl) => f t a fl (fl % 32)) := rfl
theorem rls (v x : Value) : ReflectliteValue.set #[v, x] = (do
    let (some (dst, a, fl), some (src, b, _)) := (← ReflectliteValue.parts v, ← ReflectliteValue.parts x)
      | unsupported (.noEntry "extern/(internal/reflectlite.Value).Set.zeroValue")
    if fl / ReflectliteValue.flagAddr % 2 == 0 then unsupported (.noEntry "extern/(internal/reflectlite.Value).Set.unaddressable")
    let val ← loadVar src b
    if ← Rtype.directlyAssignable dst src then storeVar dst a val
    else if ← Rtype.implements dst src then
      if (← Rtype.kind src) == 20 then
        match val with
        | .nilIface => unsupported (.noEntry "extern/reflectlite: a nil value of one interface type handed on as a value of another")
        | _ => storeVar dst a val
      else storeVar dst a (.iface src val)
    else panicString ("reflectlite.Set: value of type " ++ (← Rtype.spelt src) ++ " is not assignable to type " ++ (← Rtype.spelt dst))
    pure (.tuple #[])) := rfl
end Lk
namespace Go.Proofs.YtpfmhohldfnhmaaGreatDoor
open Go.RowKit Go.Extern.Stop Go.Stop Go.Extern Lk
def hnd (t : Nat) : Value := .pointer (some ⟨2, t, none⟩)

theorem valueOfPE (t : Addr) (w : World) : (ReflectliteValue.unpack (.iface 110 (.pointer (some t)))).run Tryz.prog w
    = .ok (.agg #[.pointer (some ⟨2, 110, none⟩), .pointer (some ⟨w.heap.size, 0, none⟩), .int .u64 150]) (w.alloc (.cells #[.pointer (some t)] 110)) := by kernel_rfl
theorem typePE (a : Addr) (w : World) : (ReflectliteValue.methodAny (ReflectliteValue.valueError "reflectlite.Value.Type" 0) (fun t _ _ _ => ReflectliteType.toType t) #[.agg #[.pointer (some ⟨2, 110, none⟩), .pointer (some a), .int .u64 150]]).run Tryz.prog w
    = .ok (.iface 178 (.agg #[.pointer (some ⟨2, 110, none⟩)])) w := by kernel_rfl
theorem kindPE (w : World) : ((ReflectliteType.abiMethod fun t => (fun a : Nat => Value.int IntKind.u8 (a : Int)) <$> Rtype.kind t) #[.pointer (some ⟨2, 110, none⟩)]).run Tryz.prog w = .ok (.int .u8 22) w := by kernel_rfl
theorem kindE (w : World) : ((ReflectliteType.abiMethod fun t => (fun a : Nat => Value.int IntKind.u8 (a : Int)) <$> Rtype.kind t) #[.pointer (some ⟨2, 107, none⟩)]).run Tryz.prog w = .ok (.int .u8 2) w := by kernel_rfl
theorem partsPE (a : Addr) (w : World) : (ReflectliteValue.parts (.agg #[.pointer (some ⟨2, 110, none⟩), .pointer (some a), .int .u64 150])).run Tryz.prog w = .ok (some (110, a, 150)) w := by kernel_rfl
theorem undPE : Tryz.prog.underlying 110 = some (.pointer 107) := by kernel_rfl
theorem undE : Tryz.prog.underlying 107 = some (.int .i64) := by kernel_rfl
theorem isNilPE (a p : Addr) (W : World) (ha : W.cell? a = some (.pointer (some p))) :
    (ReflectliteValue.method (ReflectliteValue.valueError "reflectlite.Value.IsNil" 0) ReflectliteValue.isNil #[.agg #[.pointer (some ⟨2, 110, none⟩), .pointer (some a), .int .u64 150]]).run Tryz.prog W = .ok (.bool false) W := by
  rw [rlm]
  simp only [Sem.run_bind, partsPE, Result.andThen]
  simp [ReflectliteValue.isNil, loadVar, isAgg, underlying, undPE, ha, Result.andThen]
theorem elemPE (w : World) : (ReflectliteType.method ReflectliteType.elem #[.agg #[.pointer (some ⟨2, 110, none⟩)]]).run Tryz.prog w = .ok (.iface 178 (.agg #[.pointer (some ⟨2, 107, none⟩)])) w := by kernel_rfl
theorem implementsE (w : World) : (ReflectliteType.relation "Implements" ReflectliteType.implements_ #[.agg #[.pointer (some ⟨2, 107, none⟩)], .iface 178 (.agg #[.pointer (some ⟨2, 29, none⟩)])]).run Tryz.prog w = .ok (.bool true) w := by kernel_rfl
theorem elemOfPE (w : World) : (Rtype.elem? 110).run Tryz.prog w = .ok (some 107) w := by kernel_rfl
theorem mkE (p : Addr) (w : World) : (ReflectliteValue.mk 107 p ReflectliteValue.flagAddr).run Tryz.prog w = .ok (.agg #[.pointer (some ⟨2, 107, none⟩), .pointer (some p), .int .u64 386]) w := by kernel_rfl
theorem elemVPE (a p : Addr) (W : World) (ha : W.cell? a = some (.pointer (some p))) :
    (ReflectliteValue.method (ReflectliteValue.valueError "reflectlite.Value.Elem" 0) ReflectliteValue.elem #[.agg #[.pointer (some ⟨2, 110, none⟩), .pointer (some a), .int .u64 150]]).run Tryz.prog W
      = .ok (.agg #[.pointer (some ⟨2, 107, none⟩), .pointer (some p), .int .u64 386]) W := by
  rw [rlm]
  simp only [Sem.run_bind, partsPE, Result.andThen]
  simp [ReflectliteValue.elem, loadVar, isAgg, underlying, undPE, ha, Result.andThen, elemOfPE, mkE]
theorem partsEa (a : Addr) (w : World) : (ReflectliteValue.parts (.agg #[.pointer (some ⟨2, 107, none⟩), .pointer (some a), .int .u64 386])).run Tryz.prog w = .ok (some (107, a, 386)) w := by kernel_rfl
theorem partsE (a : Addr) (w : World) : (ReflectliteValue.parts (.agg #[.pointer (some ⟨2, 107, none⟩), .pointer (some a), .int .u64 130])).run Tryz.prog w = .ok (some (107, a, 130)) w := by kernel_rfl
theorem directE (w : World) : (Rtype.directlyAssignable 107 107).run Tryz.prog w = .ok true w := by kernel_rfl
theorem sizeE (w : World) : (sizeOf 107).run Tryz.prog w = .ok 1 w := by kernel_rfl
theorem typeOfE (v : Value) (w : World) : (ReflectliteType.typeOf #[.iface 107 v]).run Tryz.prog w = .ok (.iface 178 (.agg #[.pointer (some ⟨2, 107, none⟩)])) w := by kernel_rfl
theorem valueOfE (k : Int) (w : World) : (ReflectliteValue.unpack (.iface 107 (.int .i64 k))).run Tryz.prog w
    = .ok (.agg #[.pointer (some ⟨2, 107, none⟩), .pointer (some ⟨w.heap.size, 0, none⟩), .int .u64 130]) (w.alloc (.cells #[.int .i64 k] 107)) := by kernel_rfl
theorem setE (ta b : Addr) (k : Int) (old : Value) (W : World) (hb : W.cell? b = some (.int .i64 k)) (ht : W.cell? ta = some old) (hf : W.frozen? ta = false) :
    (ReflectliteValue.set #[.agg #[.pointer (some ⟨2, 107, none⟩), .pointer (some ta), .int .u64 386], .agg #[.pointer (some ⟨2, 107, none⟩), .pointer (some b), .int .u64 130]]).run Tryz.prog W
      = .ok (.tuple #[]) (W.setCell ta (.int .i64 k)) := by
  rw [rls]
  simp only [Sem.run_bind, partsEa, partsE, Result.andThen]
  simp [ReflectliteValue.flagAddr, loadVar, isAgg, underlying, undE, hb, Result.andThen, directE, storeVar, Value.cells, storeCells, Addr.add]
  rw [run_store Tryz.prog W ta _ _ (by rfl)]
  simp [ht, hf]

theorem valueOfPF (t : Addr) (w : World) : (ReflectliteValue.unpack (.iface 114 (.pointer (some t)))).run Tryz.prog w
    = .ok (.agg #[.pointer (some ⟨2, 114, none⟩), .pointer (some ⟨w.heap.size, 0, none⟩), .int .u64 150]) (w.alloc (.cells #[.pointer (some t)] 114)) := by kernel_rfl
theorem typePF (a : Addr) (w : World) : (ReflectliteValue.methodAny (ReflectliteValue.valueError "reflectlite.Value.Type" 0) (fun t _ _ _ => ReflectliteType.toType t) #[.agg #[.pointer (some ⟨2, 114, none⟩), .pointer (some a), .int .u64 150]]).run Tryz.prog w
    = .ok (.iface 178 (.agg #[.pointer (some ⟨2, 114, none⟩)])) w := by kernel_rfl
theorem kindPF (w : World) : ((ReflectliteType.abiMethod fun t => (fun a : Nat => Value.int IntKind.u8 (a : Int)) <$> Rtype.kind t) #[.pointer (some ⟨2, 114, none⟩)]).run Tryz.prog w = .ok (.int .u8 22) w := by kernel_rfl
theorem kindF (w : World) : ((ReflectliteType.abiMethod fun t => (fun a : Nat => Value.int IntKind.u8 (a : Int)) <$> Rtype.kind t) #[.pointer (some ⟨2, 113, none⟩)]).run Tryz.prog w = .ok (.int .u8 22) w := by kernel_rfl
theorem partsPF (a : Addr) (w : World) : (ReflectliteValue.parts (.agg #[.pointer (some ⟨2, 114, none⟩), .pointer (some a), .int .u64 150])).run Tryz.prog w = .ok (some (114, a, 150)) w := by kernel_rfl
theorem undPF : Tryz.prog.underlying 114 = some (.pointer 113) := by kernel_rfl
theorem undF : Tryz.prog.underlying 113 = some (.pointer 116) := by kernel_rfl
theorem isNilPF (a p : Addr) (W : World) (ha : W.cell? a = some (.pointer (some p))) :
    (ReflectliteValue.method (ReflectliteValue.valueError "reflectlite.Value.IsNil" 0) ReflectliteValue.isNil #[.agg #[.pointer (some ⟨2, 114, none⟩), .pointer (some a), .int .u64 150]]).run Tryz.prog W = .ok (.bool false) W := by
  rw [rlm]
  simp only [Sem.run_bind, partsPF, Result.andThen]
  simp [ReflectliteValue.isNil, loadVar, isAgg, underlying, undPF, ha, Result.andThen]
theorem elemPF (w : World) : (ReflectliteType.method ReflectliteType.elem #[.agg #[.pointer (some ⟨2, 114, none⟩)]]).run Tryz.prog w = .ok (.iface 178 (.agg #[.pointer (some ⟨2, 113, none⟩)])) w := by kernel_rfl
theorem implementsF (w : World) : (ReflectliteType.relation "Implements" ReflectliteType.implements_ #[.agg #[.pointer (some ⟨2, 113, none⟩)], .iface 178 (.agg #[.pointer (some ⟨2, 29, none⟩)])]).run Tryz.prog w = .ok (.bool true) w := by kernel_rfl
theorem elemOfPF (w : World) : (Rtype.elem? 114).run Tryz.prog w = .ok (some 113) w := by kernel_rfl
theorem mkF (p : Addr) (w : World) : (ReflectliteValue.mk 113 p ReflectliteValue.flagAddr).run Tryz.prog w = .ok (.agg #[.pointer (some ⟨2, 113, none⟩), .pointer (some p), .int .u64 406]) w := by kernel_rfl
theorem elemVPF (a p : Addr) (W : World) (ha : W.cell? a = some (.pointer (some p))) :
    (ReflectliteValue.method (ReflectliteValue.valueError "reflectlite.Value.Elem" 0) ReflectliteValue.elem #[.agg #[.pointer (some ⟨2, 114, none⟩), .pointer (some a), .int .u64 150]]).run Tryz.prog W
      = .ok (.agg #[.pointer (some ⟨2, 113, none⟩), .pointer (some p), .int .u64 406]) W := by
  rw [rlm]
  simp only [Sem.run_bind, partsPF, Result.andThen]
  simp [ReflectliteValue.elem, loadVar, isAgg, underlying, undPF, ha, Result.andThen, elemOfPF, mkF]
theorem partsFa (a : Addr) (w : World) : (ReflectliteValue.parts (.agg #[.pointer (some ⟨2, 113, none⟩), .pointer (some a), .int .u64 406])).run Tryz.prog w = .ok (some (113, a, 406)) w := by kernel_rfl
theorem partsF (a : Addr) (w : World) : (ReflectliteValue.parts (.agg #[.pointer (some ⟨2, 113, none⟩), .pointer (some a), .int .u64 150])).run Tryz.prog w = .ok (some (113, a, 150)) w := by kernel_rfl
theorem directF (w : World) : (Rtype.directlyAssignable 113 113).run Tryz.prog w = .ok true w := by kernel_rfl
theorem sizeF (w : World) : (sizeOf 113).run Tryz.prog w = .ok 1 w := by kernel_rfl
theorem typeOfF (v : Value) (w : World) : (ReflectliteType.typeOf #[.iface 113 v]).run Tryz.prog w = .ok (.iface 178 (.agg #[.pointer (some ⟨2, 113, none⟩)])) w := by kernel_rfl
theorem valueOfF (e : Addr) (w : World) : (ReflectliteValue.unpack (.iface 113 (.pointer (some e)))).run Tryz.prog w
    = .ok (.agg #[.pointer (some ⟨2, 113, none⟩), .pointer (some ⟨w.heap.size, 0, none⟩), .int .u64 150]) (w.alloc (.cells #[.pointer (some e)] 113)) := by kernel_rfl
theorem setF (ta b : Addr) (e : Addr) (old : Value) (W : World) (hb : W.cell? b = some (.pointer (some e))) (ht : W.cell? ta = some old) (hf : W.frozen? ta = false) :
    (ReflectliteValue.set #[.agg #[.pointer (some ⟨2, 113, none⟩), .pointer (some ta), .int .u64 406], .agg #[.pointer (some ⟨2, 113, none⟩), .pointer (some b), .int .u64 150]]).run Tryz.prog W
      = .ok (.tuple #[]) (W.setCell ta (.pointer (some e))) := by
  rw [rls]
  simp only [Sem.run_bind, partsFa, partsF, Result.andThen]
  simp [ReflectliteValue.flagAddr, loadVar, isAgg, underlying, undF, hb, Result.andThen, directF, storeVar, Value.cells, storeCells, Addr.add]
  rw [run_store Tryz.prog W ta _ _ (by rfl)]
  simp [ht, hf]

theorem asgEE (w : World) : (ReflectliteType.relation "AssignableTo" ReflectliteType.assignableTo #[.agg #[.pointer (some ⟨2, 107, none⟩)], .iface 178 (.agg #[.pointer (some ⟨2, 107, none⟩)])]).run Tryz.prog w = .ok (.bool true) w := by kernel_rfl
theorem asgFE (w : World) : (ReflectliteType.relation "AssignableTo" ReflectliteType.assignableTo #[.agg #[.pointer (some ⟨2, 113, none⟩)], .iface 178 (.agg #[.pointer (some ⟨2, 107, none⟩)])]).run Tryz.prog w = .ok (.bool false) w := by kernel_rfl
theorem asgFF (w : World) : (ReflectliteType.relation "AssignableTo" ReflectliteType.assignableTo #[.agg #[.pointer (some ⟨2, 113, none⟩)], .iface 178 (.agg #[.pointer (some ⟨2, 113, none⟩)])]).run Tryz.prog w = .ok (.bool true) w := by kernel_rfl
theorem asgEF (w : World) : (ReflectliteType.relation "AssignableTo" ReflectliteType.assignableTo #[.agg #[.pointer (some ⟨2, 107, none⟩)], .iface 178 (.agg #[.pointer (some ⟨2, 113, none⟩)])]).run Tryz.prog w = .ok (.bool false) w := by kernel_rfl
end Go.Proofs.YtpfmhohldfnhmaaGreatDoor
set_option linter.unusedVariables false
set_option linter.unusedSimpArgs false
namespace Go.Proofs.YtpfmhohldfnhmaaGreatDoor
open Go.RowKit Go.Extern.Stop Go.Stop Go.Extern Lk
/-- package errors' variable errorType is laid. -/
def Et (w : World) : Prop := w.cell? ⟨0, 0, none⟩ = some (.iface 178 (.agg #[hnd 29]))
theorem Et.lt {w : World} (h : Et w) : 0 < w.heap.size := block_of_cell h
theorem Et.below {w w1 : World} (h : Et w) (hL : Below w.heap.size w w1) : Et w1 := (hL.cell (p := ⟨0, 0, none⟩) h.lt).trans h
theorem Et.under {w w1 : World} {N : Nat} (h : Et w) (hL : Below N w w1) (hN : w.heap.size = N) : Et w1 := h.below (by rw [hN]; exact hL)
/-- An error: faults at places 'ats', around a number. -/
def ErV (w : World) : List Int → Int → Value → Prop
  | [], k, v => v = .iface 107 (.int .i64 k)
  | a :: r, k, v => ∃ g u, v = .iface 113 (.pointer (some ⟨g, 0, none⟩)) ∧ w.heap[g]? = some (.cells #[.int .i64 a, u] 116 (0, 0)) ∧ ErV w r k u
theorem ErV.below {w w1 : World} : ∀ {ats : List Int} {k : Int} {v : Value} (_ : ErV w ats k v) (_ : Below w.heap.size w w1), ErV w1 ats k v
  | [], _, _, h, _ => h
  | _ :: _, _, _, ⟨g, u, e, hc, hr⟩, hL => ⟨g, u, e, by
      have hg : g < w.heap.size := (Array.getElem?_eq_some_iff.1 hc).1
      rw [hL.block g hg]; exact hc, ErV.below hr hL⟩
theorem ErV.ne {w : World} : ∀ {ats : List Int} {k : Int} {v : Value} (_ : ErV w ats k v), v ≠ .nilIface
  | [], _, _, h => by intro e; rw [e] at h; cases h
  | _ :: _, _, _, ⟨g, u, e, _, _⟩ => by intro e'; rw [e'] at e; cases e
theorem ErV.form {w : World} : ∀ {ats : List Int} {k : Int} {v : Value} (_ : ErV w ats k v), ∃ T x, v = .iface T x
  | [], _, _, h => ⟨_, _, h⟩
  | _ :: _, _, _, ⟨_, _, e, _, _⟩ => ⟨_, _, e⟩
theorem below_mr {w w1 w2 : World} {B B' : Nat} (h : Below B w w1) (h' : Below B' w1 w2) (hB : B ≤ B') : Below B w w2 := h.trans (h'.mono hB)
theorem asNo (v : Value) (xT : TypeId) (w : World) : (Instr.typeAssert (.iface 107 v) xT 183 true).run Tryz.prog w = .ok (.tuple #[.nilIface, .bool false]) w := run_typeAssert_lacksB Tryz.underlying183 (by kernel_rfl) (by kernel_rfl) v xT w
theorem asNoF (v : Value) (xT : TypeId) (w : World) : (Instr.typeAssert (.iface 113 v) xT 183 true).run Tryz.prog w = .ok (.tuple #[.nilIface, .bool false]) w := run_typeAssert_lacksB Tryz.underlying183 (by kernel_rfl) (by kernel_rfl) v xT w
theorem unwNo (v : Value) (xT : TypeId) (w : World) : (Instr.typeAssert (.iface 107 v) xT 186 true).run Tryz.prog w = .ok (.tuple #[.nilIface, .bool false]) w := run_typeAssert_lacksB Tryz.underlying186 (by kernel_rfl) (by kernel_rfl) v xT w
theorem unwsNo (v : Value) (xT : TypeId) (w : World) : (Instr.typeAssert (.iface 107 v) xT 187 true).run Tryz.prog w = .ok (.tuple #[.nilIface, .bool false]) w := run_typeAssert_lacksB Tryz.underlying187 (by kernel_rfl) (by kernel_rfl) v xT w
theorem unwF (v : Value) (xT : TypeId) (w : World) : (Instr.typeAssert (.iface 113 v) xT 186 true).run Tryz.prog w = .ok (.tuple #[.iface 113 v, .bool true]) w := run_typeAssert_hasB Tryz.underlying186 (by kernel_rfl) v xT w
theorem mKind (h : Value) (w : World) : (Go.method 360 178 (.agg #[h]) "Kind").run Tryz.prog w = .ok (172, h) w := by kernel_rfl
theorem mElem (h : Value) (w : World) : (Go.method 360 178 (.agg #[h]) "Elem").run Tryz.prog w = .ok (187, .agg #[h]) w := by kernel_rfl
theorem mImpl (h : Value) (w : World) : (Go.method 360 178 (.agg #[h]) "Implements").run Tryz.prog w = .ok (188, .agg #[h]) w := by kernel_rfl
theorem mAsg (h : Value) (w : World) : (Go.method 360 178 (.agg #[h]) "AssignableTo").run Tryz.prog w = .ok (185, .agg #[h]) w := by kernel_rfl
theorem mUnw (a : Addr) (w : World) : (Go.method 360 113 (.pointer (some a)) "Unwrap").run Tryz.prog w = .ok (179, .pointer (some a)) w := by kernel_rfl
theorem Unwrap_any (g : Nat) (a : Int) (u : Value) (w : World) (hc : w.heap[g]? = some (.cells #[.int .i64 a, u] 116 (0, 0))) :
    Calls Tryz.prog 179 #[.pointer (some ⟨g, 0, none⟩)] w fun e w' => e = .returned u ∧ w' = w := by
  have c1 : w.cell? ⟨g, 1, none⟩ = some u := by simp [World.cell?, hc]
  go_enter Tryz.func179, Tryz.ntmps179
  go_wp2
  go_ret
  exact ⟨rfl, rfl⟩
set_option maxHeartbeats 4000000 in
set_option maxRecDepth 100000 in
theorem as_EE (k : Int) (tg : Value) (a t : Addr) (old : Value) (w : World) (ha : w.cell? a = some (.pointer (some t))) (ht : w.cell? t = some old) (hf : w.frozen? t = false) :
    Calls Tryz.prog 95 #[.iface 107 (.int .i64 k), tg, .agg #[hnd 110, .pointer (some a), .int .u64 150], .iface 178 (.agg #[hnd 107])] w fun e w' => e = .returned (.bool true) ∧ ∃ w1, Below w.heap.size w w1 ∧ w' = w1.setCell t (.int .i64 k) := by
  have x_vo := @run_callFunc_extern Tryz.prog 92 _ (fun args => ReflectliteValue.unpack (args.getD 0 (.tuple #[]))) Tryz.func92 (by kernel_rfl) (by kernel_rfl) (by kernel_rfl) (by kernel_rfl)
  have x_to := @run_callFunc_extern Tryz.prog 114 _ ReflectliteType.typeOf Tryz.func114 (by kernel_rfl) (by kernel_rfl) (by kernel_rfl) (by kernel_rfl)
  have x_asg := @run_callFunc_extern Tryz.prog 185 _ (ReflectliteType.relation "AssignableTo" ReflectliteType.assignableTo) Tryz.func185 (by kernel_rfl) (by kernel_rfl) (by kernel_rfl) (by kernel_rfl)
  have x_ev := @run_callFunc_extern Tryz.prog 115 _ (ReflectliteValue.method (ReflectliteValue.valueError "reflectlite.Value.Elem" 0) ReflectliteValue.elem) Tryz.func115 (by kernel_rfl) (by kernel_rfl) (by kernel_rfl) (by kernel_rfl)
  have x_set := @run_callFunc_extern Tryz.prog 116 _ ReflectliteValue.set Tryz.func116 (by kernel_rfl) (by kernel_rfl) (by kernel_rfl) (by kernel_rfl)
  unfold hnd
  have m1 := mAsg
  have f1 := typeOfE
  have f2 := asgEE
  have f3 := valueOfE
  have tlt := block_of_cell ht
  have alt := block_of_cell ha
  obtain ⟨V, hV⟩ : ∃ V, w.alloc (.cells #[.pointer (some ⟨2, 110, none⟩), .pointer (some a), .int .u64 150] 148) = V := ⟨_, rfl⟩
  have hVz : V.heap.size = w.heap.size + 1 := by rw [← hV]; simp
  have el := elemVPE a t V (by rw [← hV, World.cell?_alloc_lt _ _ a alt]; exact ha)
  have st := setE t ⟨V.heap.size, 0, none⟩ k old (V.alloc (.cells #[.int .i64 k] 107)) (by rw [World.cell?_alloc_at _ _ _ _ (by simp)]; rfl) (by rw [World.cell?_alloc_lt _ _ t (by omega), ← hV, World.cell?_alloc_lt _ _ t tlt]; exact ht) (by rw [World.frozen?_alloc_old _ _ t (by omega), ← hV, World.frozen?_alloc_old _ _ t (Nat.ne_of_lt tlt)]; exact hf)
  rw [hVz] at st
  clear hVz
  subst hV
  go_enter Tryz.func95, Tryz.ntmps95
  go_wp2
  refine wp_loop_rounds 1 ?_
  rw [rounds_succ]
  go_wp2
  go_ret
  exact ⟨rfl, _, ((Below.refl _ _).alloc (Nat.le_refl _) _).alloc (by simp) _, rfl⟩
set_option maxHeartbeats 4000000 in
set_option maxRecDepth 100000 in
theorem as_FF (p : Addr) (tg : Value) (a t : Addr) (old : Value) (w : World) (ha : w.cell? a = some (.pointer (some t))) (ht : w.cell? t = some old) (hf : w.frozen? t = false) :
    Calls Tryz.prog 95 #[.iface 113 (.pointer (some p)), tg, .agg #[hnd 114, .pointer (some a), .int .u64 150], .iface 178 (.agg #[hnd 113])] w fun e w' => e = .returned (.bool true) ∧ ∃ w1, Below w.heap.size w w1 ∧ w' = w1.setCell t (.pointer (some p)) := by
  have x_vo := @run_callFunc_extern Tryz.prog 92 _ (fun args => ReflectliteValue.unpack (args.getD 0 (.tuple #[]))) Tryz.func92 (by kernel_rfl) (by kernel_rfl) (by kernel_rfl) (by kernel_rfl)
  have x_to := @run_callFunc_extern Tryz.prog 114 _ ReflectliteType.typeOf Tryz.func114 (by kernel_rfl) (by kernel_rfl) (by kernel_rfl) (by kernel_rfl)
  have x_asg := @run_callFunc_extern Tryz.prog 185 _ (ReflectliteType.relation "AssignableTo" ReflectliteType.assignableTo) Tryz.func185 (by kernel_rfl) (by kernel_rfl) (by kernel_rfl) (by kernel_rfl)
  have x_ev := @run_callFunc_extern Tryz.prog 115 _ (ReflectliteValue.method (ReflectliteValue.valueError "reflectlite.Value.Elem" 0) ReflectliteValue.elem) Tryz.func115 (by kernel_rfl) (by kernel_rfl) (by kernel_rfl) (by kernel_rfl)
  have x_set := @run_callFunc_extern Tryz.prog 116 _ ReflectliteValue.set Tryz.func116 (by kernel_rfl) (by kernel_rfl) (by kernel_rfl) (by kernel_rfl)
  unfold hnd
  have m1 := mAsg
  have f1 := typeOfF
  have f2 := asgFF
  have f3 := valueOfF
  have tlt := block_of_cell ht
  have alt := block_of_cell ha
  obtain ⟨V, hV⟩ : ∃ V, w.alloc (.cells #[.pointer (some ⟨2, 114, none⟩), .pointer (some a), .int .u64 150] 148) = V := ⟨_, rfl⟩
  have hVz : V.heap.size = w.heap.size + 1 := by rw [← hV]; simp
  have el := elemVPF a t V (by rw [← hV, World.cell?_alloc_lt _ _ a alt]; exact ha)
  have st := setF t ⟨V.heap.size, 0, none⟩ p old (V.alloc (.cells #[.pointer (some p)] 113)) (by rw [World.cell?_alloc_at _ _ _ _ (by simp)]; rfl) (by rw [World.cell?_alloc_lt _ _ t (by omega), ← hV, World.cell?_alloc_lt _ _ t tlt]; exact ht) (by rw [World.frozen?_alloc_old _ _ t (by omega), ← hV, World.frozen?_alloc_old _ _ t (Nat.ne_of_lt tlt)]; exact hf)
  rw [hVz] at st
  clear hVz
  subst hV
  go_enter Tryz.func95, Tryz.ntmps95
  go_wp2
  refine wp_loop_rounds 1 ?_
  rw [rounds_succ]
  go_wp2
  go_ret
  exact ⟨rfl, _, ((Below.refl _ _).alloc (Nat.le_refl _) _).alloc (by simp) _, rfl⟩
set_option maxHeartbeats 4000000 in
set_option maxRecDepth 100000 in
theorem as_E (ats : List Int) (k : Int) (v tg : Value) (a t : Addr) (old : Value) (w : World) (hv : ErV w ats k v) (ha : w.cell? a = some (.pointer (some t))) (ht : w.cell? t = some old) (hf : w.frozen? t = false) :
    Calls Tryz.prog 95 #[v, tg, .agg #[hnd 110, .pointer (some a), .int .u64 150], .iface 178 (.agg #[hnd 107])] w fun e w' => e = .returned (.bool true) ∧ ∃ w1, Below w.heap.size w w1 ∧ w' = w1.setCell t (.int .i64 k) := by
  have x_vo := @run_callFunc_extern Tryz.prog 92 _ (fun args => ReflectliteValue.unpack (args.getD 0 (.tuple #[]))) Tryz.func92 (by kernel_rfl) (by kernel_rfl) (by kernel_rfl) (by kernel_rfl)
  have x_to := @run_callFunc_extern Tryz.prog 114 _ ReflectliteType.typeOf Tryz.func114 (by kernel_rfl) (by kernel_rfl) (by kernel_rfl) (by kernel_rfl)
  have x_asg := @run_callFunc_extern Tryz.prog 185 _ (ReflectliteType.relation "AssignableTo" ReflectliteType.assignableTo) Tryz.func185 (by kernel_rfl) (by kernel_rfl) (by kernel_rfl) (by kernel_rfl)
  have x_ev := @run_callFunc_extern Tryz.prog 115 _ (ReflectliteValue.method (ReflectliteValue.valueError "reflectlite.Value.Elem" 0) ReflectliteValue.elem) Tryz.func115 (by kernel_rfl) (by kernel_rfl) (by kernel_rfl) (by kernel_rfl)
  have x_set := @run_callFunc_extern Tryz.prog 116 _ ReflectliteValue.set Tryz.func116 (by kernel_rfl) (by kernel_rfl) (by kernel_rfl) (by kernel_rfl)
  unfold hnd
  have m1 := mAsg
  have m2 := mUnw
  have f1 := typeOfE
  have f2 := asgEE
  have f3 := valueOfE
  have f4 := typeOfF
  have f5 := asgFE
  have g1 := asNo
  have g2 := asNoF
  have g3 := unwF
  have tlt := block_of_cell ht
  have alt := block_of_cell ha
  obtain ⟨V, hV⟩ : ∃ V, w.alloc (.cells #[.pointer (some ⟨2, 110, none⟩), .pointer (some a), .int .u64 150] 148) = V := ⟨_, rfl⟩
  have hVz : V.heap.size = w.heap.size + 1 := by rw [← hV]; simp
  have el := elemVPE a t V (by rw [← hV, World.cell?_alloc_lt _ _ a alt]; exact ha)
  have st := setE t ⟨V.heap.size, 0, none⟩ k old (V.alloc (.cells #[.int .i64 k] 107)) (by rw [World.cell?_alloc_at _ _ _ _ (by simp)]; rfl) (by rw [World.cell?_alloc_lt _ _ t (by omega), ← hV, World.cell?_alloc_lt _ _ t tlt]; exact ht) (by rw [World.frozen?_alloc_old _ _ t (by omega), ← hV, World.frozen?_alloc_old _ _ t (Nat.ne_of_lt tlt)]; exact hf)
  have hv1 : ErV V ats k v := hv.below (by rw [← hV]; exact (Below.refl _ _).alloc (Nat.le_refl _) _)
  have HV := Lib.hid hv1
  rw [hVz] at st
  clear hVz hv hv1
  subst hV
  have hb := (Below.refl w.heap.size w).alloc (Nat.le_refl _) (.cells #[.pointer (some ⟨2, 110, none⟩), .pointer (some a), .int .u64 150] 148)
  go_enter Tryz.func95, Tryz.ntmps95
  go_wp2
  go_loopg [0] ats.length (fun n u wr => wr = w.alloc (.cells #[.pointer (some ⟨2, 110, none⟩), .pointer (some a), .int .u64 150] 148) ∧ ∃ ps, ps.length = n ∧ Hid (ErV (w.alloc (.cells #[.pointer (some ⟨2, 110, none⟩), .pointer (some a), .int .u64 150] 148)) ps k u))
  case atStart => exact ⟨rfl, ats, rfl, HV⟩
  case round =>
    clear HV
    obtain ⟨rfl, ps, hn, hu⟩ := hrel
    have hu := hu.out
    rcases ps with _ | ⟨p, r⟩
    · have hu : _ = Value.iface 107 (.int .i64 k) := hu
      subst hu
      clear hn
      go_wp2
      go_ret
      exact ⟨rfl, _, hb.alloc (by simp) _, rfl⟩
    · obtain ⟨g, u, e, hc, hr⟩ := hu
      subst e
      have HR := Lib.hid hr
      have HN := Lib.hid hn
      clear hn
      rcases r with _ | ⟨p2, r2⟩
      · have hr : u = Value.iface 107 (.int .i64 k) := hr
        subst hr
        go_wp2_with (go_at_call 179; refine (Unwrap_any g p _ _ hc).mono ?_; rintro e w' ⟨rfl, rfl⟩)
        go_roundg 0
        case rel => exact ⟨rfl, [], rfl, HR⟩
        case measure => have := HN.out; simp at this; omega
      · obtain ⟨g2, u2, e2, hc2, hr2⟩ := hr
        subst e2
        go_wp2_with (go_at_call 179; refine (Unwrap_any g p _ _ hc).mono ?_; rintro e w' ⟨rfl, rfl⟩)
        go_roundg (r2.length + 1)
        case rel => exact ⟨rfl, p2 :: r2, rfl, HR⟩
        case measure => have := HN.out; simp at this; omega
set_option maxHeartbeats 4000000 in
set_option maxRecDepth 100000 in
theorem as_EF (k : Int) (tg : Value) (a : Addr) (w : World) :
    Calls Tryz.prog 95 #[.iface 107 (.int .i64 k), tg, .agg #[hnd 114, .pointer (some a), .int .u64 150], .iface 178 (.agg #[hnd 113])] w fun e w' => e = .returned (.bool false) ∧ Below w.heap.size w w' := by
  have x_to := @run_callFunc_extern Tryz.prog 114 _ ReflectliteType.typeOf Tryz.func114 (by kernel_rfl) (by kernel_rfl) (by kernel_rfl) (by kernel_rfl)
  have x_asg := @run_callFunc_extern Tryz.prog 185 _ (ReflectliteType.relation "AssignableTo" ReflectliteType.assignableTo) Tryz.func185 (by kernel_rfl) (by kernel_rfl) (by kernel_rfl) (by kernel_rfl)
  unfold hnd
  have m1 := mAsg
  have f1 := typeOfE
  have f2 := asgEF
  have g1 := asNo
  have g2 := unwNo
  have g3 := unwsNo
  go_enter Tryz.func95, Tryz.ntmps95
  go_wp2
  refine wp_loop_rounds 1 ?_
  rw [rounds_succ]
  go_wp2
  go_ret
  exact ⟨rfl, (Below.refl _ _).alloc (Nat.le_refl _) _⟩
set_option maxHeartbeats 4000000 in
set_option maxRecDepth 100000 in
theorem As_E (ats : List Int) (k : Int) (v : Value) (t : Addr) (old : Value) (w : World) (hE : Et w) (hv : ErV w ats k v) (ht : w.cell? t = some old) (hf : w.frozen? t = false) :
    Calls Tryz.prog 63 #[v, .iface 110 (.pointer (some t))] w fun e w' => e = .returned (.bool true) ∧ ∃ w1, Below w.heap.size w w1 ∧ w' = w1.setCell t (.int .i64 k) := by
  have x_vo := @run_callFunc_extern Tryz.prog 92 _ (fun args => ReflectliteValue.unpack (args.getD 0 (.tuple #[]))) Tryz.func92 (by kernel_rfl) (by kernel_rfl) (by kernel_rfl) (by kernel_rfl)
  have x_ty := @run_callFunc_extern Tryz.prog 93 _ (ReflectliteValue.methodAny (ReflectliteValue.valueError "reflectlite.Value.Type" 0) (fun t _ _ _ => ReflectliteType.toType t)) Tryz.func93 (by kernel_rfl) (by kernel_rfl) (by kernel_rfl) (by kernel_rfl)
  have x_nil := @run_callFunc_extern Tryz.prog 94 _ (ReflectliteValue.method (ReflectliteValue.valueError "reflectlite.Value.IsNil" 0) ReflectliteValue.isNil) Tryz.func94 (by kernel_rfl) (by kernel_rfl) (by kernel_rfl) (by kernel_rfl)
  have x_kind := @run_callFunc_extern Tryz.prog 172 _ (ReflectliteType.abiMethod fun t => do pure (.int .u8 (← Rtype.kind t))) Tryz.func172 (by kernel_rfl) (by kernel_rfl) (by kernel_rfl) (by kernel_rfl)
  have x_elem := @run_callFunc_extern Tryz.prog 187 _ (ReflectliteType.method ReflectliteType.elem) Tryz.func187 (by kernel_rfl) (by kernel_rfl) (by kernel_rfl) (by kernel_rfl)
  have x_impl := @run_callFunc_extern Tryz.prog 188 _ (ReflectliteType.relation "Implements" ReflectliteType.implements_) Tryz.func188 (by kernel_rfl) (by kernel_rfl) (by kernel_rfl) (by kernel_rfl)
  obtain ⟨T, x, ex⟩ := hv.form
  subst ex
  have m1 := mKind
  have m2 := mElem
  have m3 := mImpl
  have f1 := valueOfPE
  have f2 := typePE
  have f3 := kindPE
  have f4 := kindE
  have f5 := elemPE
  have f6 := implementsE
  have glt := hE.lt
  have tlt := block_of_cell ht
  obtain ⟨V1, hV1⟩ : ∃ V, w.alloc (.cells #[.pointer (some t)] 110) = V := ⟨_, rfl⟩
  have z1 : V1.heap.size = w.heap.size + 1 := by rw [← hV1]; simp
  obtain ⟨V2, hV2⟩ : ∃ V, V1.alloc (.cells #[.pointer (some ⟨2, 110, none⟩), .pointer (some ⟨w.heap.size, 0, none⟩), .int .u64 150] 148) = V := ⟨_, rfl⟩
  have c1 : V2.cell? ⟨w.heap.size, 0, none⟩ = some (.pointer (some t)) := by rw [← hV2, World.cell?_alloc_lt _ _ _ (by simp; omega), ← hV1, World.cell?_alloc_at _ _ _ _ rfl]; rfl
  have n8 := isNilPE ⟨w.heap.size, 0, none⟩ t V2 c1
  have b2 : Below w.heap.size w V2 := by rw [← hV2, ← hV1]; exact ((Below.refl _ _).alloc (Nat.le_refl _) _).alloc (by simp) _
  have hE2 : V2.cell? ⟨0, 0, none⟩ = some (.iface 178 (.agg #[hnd 29])) := hE.below b2
  have ht2 : V2.cell? t = some old := by rw [← hV2, World.cell?_alloc_lt _ _ t (by omega), ← hV1, World.cell?_alloc_lt _ _ t tlt]; exact ht
  have hf2 : V2.frozen? t = false := by rw [← hV2, World.frozen?_alloc_old _ _ t (by omega), ← hV1, World.frozen?_alloc_old _ _ t (Nat.ne_of_lt tlt)]; exact hf
  have ca := as_E ats k _ (.iface 110 (.pointer (some t))) ⟨w.heap.size, 0, none⟩ t old V2 (hv.below b2) c1 ht2 hf2
  have CA := Lib.hid ca
  have B2 := Lib.hid b2
  clear ca b2 z1 ht2 hf2
  unfold hnd at hE2 CA
  subst hV2
  subst hV1
  go_enter Tryz.func63, Tryz.ntmps63
  go_wp2_with (go_at_call 95; refine CA.out.mono ?_; rintro e w3 ⟨rfl, w4, hL4, rfl⟩)
  go_ret
  exact ⟨rfl, w4, below_mr B2.out hL4 (by simp; omega), rfl⟩
set_option maxHeartbeats 4000000 in
set_option maxRecDepth 100000 in
theorem As_F (p : Addr) (t : Addr) (old : Value) (w : World) (hE : Et w)  (ht : w.cell? t = some old) (hf : w.frozen? t = false) :
    Calls Tryz.prog 63 #[.iface 113 (.pointer (some p)), .iface 114 (.pointer (some t))] w fun e w' => e = .returned (.bool true) ∧ ∃ w1, Below w.heap.size w w1 ∧ w' = w1.setCell t (.pointer (some p)) := by
  have x_vo := @run_callFunc_extern Tryz.prog 92 _ (fun args => ReflectliteValue.unpack (args.getD 0 (.tuple #[]))) Tryz.func92 (by kernel_rfl) (by kernel_rfl) (by kernel_rfl) (by kernel_rfl)
  have x_ty := @run_callFunc_extern Tryz.prog 93 _ (ReflectliteValue.methodAny (ReflectliteValue.valueError "reflectlite.Value.Type" 0) (fun t _ _ _ => ReflectliteType.toType t)) Tryz.func93 (by kernel_rfl) (by kernel_rfl) (by kernel_rfl) (by kernel_rfl)
  have x_nil := @run_callFunc_extern Tryz.prog 94 _ (ReflectliteValue.method (ReflectliteValue.valueError "reflectlite.Value.IsNil" 0) ReflectliteValue.isNil) Tryz.func94 (by kernel_rfl) (by kernel_rfl) (by kernel_rfl) (by kernel_rfl)
  have x_kind := @run_callFunc_extern Tryz.prog 172 _ (ReflectliteType.abiMethod fun t => do pure (.int .u8 (← Rtype.kind t))) Tryz.func172 (by kernel_rfl) (by kernel_rfl) (by kernel_rfl) (by kernel_rfl)
  have x_elem := @run_callFunc_extern Tryz.prog 187 _ (ReflectliteType.method ReflectliteType.elem) Tryz.func187 (by kernel_rfl) (by kernel_rfl) (by kernel_rfl) (by kernel_rfl)
  have x_impl := @run_callFunc_extern Tryz.prog 188 _ (ReflectliteType.relation "Implements" ReflectliteType.implements_) Tryz.func188 (by kernel_rfl) (by kernel_rfl) (by kernel_rfl) (by kernel_rfl)
  have m1 := mKind
  have m2 := mElem
  have m3 := mImpl
  have f1 := valueOfPF
  have f2 := typePF
  have f3 := kindPF
  have f4 := kindF
  have f5 := elemPF
  have f6 := implementsF
  have glt := hE.lt
  have tlt := block_of_cell ht
  obtain ⟨V1, hV1⟩ : ∃ V, w.alloc (.cells #[.pointer (some t)] 114) = V := ⟨_, rfl⟩
  have z1 : V1.heap.size = w.heap.size + 1 := by rw [← hV1]; simp
  obtain ⟨V2, hV2⟩ : ∃ V, V1.alloc (.cells #[.pointer (some ⟨2, 114, none⟩), .pointer (some ⟨w.heap.size, 0, none⟩), .int .u64 150] 148) = V := ⟨_, rfl⟩
  have c1 : V2.cell? ⟨w.heap.size, 0, none⟩ = some (.pointer (some t)) := by rw [← hV2, World.cell?_alloc_lt _ _ _ (by simp; omega), ← hV1, World.cell?_alloc_at _ _ _ _ rfl]; rfl
  have n8 := isNilPF ⟨w.heap.size, 0, none⟩ t V2 c1
  have b2 : Below w.heap.size w V2 := by rw [← hV2, ← hV1]; exact ((Below.refl _ _).alloc (Nat.le_refl _) _).alloc (by simp) _
  have hE2 : V2.cell? ⟨0, 0, none⟩ = some (.iface 178 (.agg #[hnd 29])) := hE.below b2
  have ht2 : V2.cell? t = some old := by rw [← hV2, World.cell?_alloc_lt _ _ t (by omega), ← hV1, World.cell?_alloc_lt _ _ t tlt]; exact ht
  have hf2 : V2.frozen? t = false := by rw [← hV2, World.frozen?_alloc_old _ _ t (by omega), ← hV1, World.frozen?_alloc_old _ _ t (Nat.ne_of_lt tlt)]; exact hf
  have ca := as_FF p (.iface 114 (.pointer (some t))) ⟨w.heap.size, 0, none⟩ t old V2 c1 ht2 hf2
  have CA := Lib.hid ca
  have B2 := Lib.hid b2
  clear ca b2 z1 ht2 hf2
  unfold hnd at hE2 CA
  subst hV2
  subst hV1
  go_enter Tryz.func63, Tryz.ntmps63
  go_wp2_with (go_at_call 95; refine CA.out.mono ?_; rintro e w3 ⟨rfl, w4, hL4, rfl⟩)
  go_ret
  exact ⟨rfl, w4, below_mr B2.out hL4 (by simp; omega), rfl⟩
set_option maxHeartbeats 4000000 in
set_option maxRecDepth 100000 in
theorem As_no (k : Int) (t : Addr) (old : Value) (w : World) (hE : Et w)  (ht : w.cell? t = some old) (hf : w.frozen? t = false) :
    Calls Tryz.prog 63 #[.iface 107 (.int .i64 k), .iface 114 (.pointer (some t))] w fun e w' => e = .returned (.bool false) ∧ Below w.heap.size w w' := by
  have x_vo := @run_callFunc_extern Tryz.prog 92 _ (fun args => ReflectliteValue.unpack (args.getD 0 (.tuple #[]))) Tryz.func92 (by kernel_rfl) (by kernel_rfl) (by kernel_rfl) (by kernel_rfl)
  have x_ty := @run_callFunc_extern Tryz.prog 93 _ (ReflectliteValue.methodAny (ReflectliteValue.valueError "reflectlite.Value.Type" 0) (fun t _ _ _ => ReflectliteType.toType t)) Tryz.func93 (by kernel_rfl) (by kernel_rfl) (by kernel_rfl) (by kernel_rfl)
  have x_nil := @run_callFunc_extern Tryz.prog 94 _ (ReflectliteValue.method (ReflectliteValue.valueError "reflectlite.Value.IsNil" 0) ReflectliteValue.isNil) Tryz.func94 (by kernel_rfl) (by kernel_rfl) (by kernel_rfl) (by kernel_rfl)
  have x_kind := @run_callFunc_extern Tryz.prog 172 _ (ReflectliteType.abiMethod fun t => do pure (.int .u8 (← Rtype.kind t))) Tryz.func172 (by kernel_rfl) (by kernel_rfl) (by kernel_rfl) (by kernel_rfl)
  have x_elem := @run_callFunc_extern Tryz.prog 187 _ (ReflectliteType.method ReflectliteType.elem) Tryz.func187 (by kernel_rfl) (by kernel_rfl) (by kernel_rfl) (by kernel_rfl)
  have x_impl := @run_callFunc_extern Tryz.prog 188 _ (ReflectliteType.relation "Implements" ReflectliteType.implements_) Tryz.func188 (by kernel_rfl) (by kernel_rfl) (by kernel_rfl) (by kernel_rfl)
  have m1 := mKind
  have m2 := mElem
  have m3 := mImpl
  have f1 := valueOfPF
  have f2 := typePF
  have f3 := kindPF
  have f4 := kindF
  have f5 := elemPF
  have f6 := implementsF
  have glt := hE.lt
  have tlt := block_of_cell ht
  obtain ⟨V1, hV1⟩ : ∃ V, w.alloc (.cells #[.pointer (some t)] 114) = V := ⟨_, rfl⟩
  have z1 : V1.heap.size = w.heap.size + 1 := by rw [← hV1]; simp
  obtain ⟨V2, hV2⟩ : ∃ V, V1.alloc (.cells #[.pointer (some ⟨2, 114, none⟩), .pointer (some ⟨w.heap.size, 0, none⟩), .int .u64 150] 148) = V := ⟨_, rfl⟩
  have c1 : V2.cell? ⟨w.heap.size, 0, none⟩ = some (.pointer (some t)) := by rw [← hV2, World.cell?_alloc_lt _ _ _ (by simp; omega), ← hV1, World.cell?_alloc_at _ _ _ _ rfl]; rfl
  have n8 := isNilPF ⟨w.heap.size, 0, none⟩ t V2 c1
  have b2 : Below w.heap.size w V2 := by rw [← hV2, ← hV1]; exact ((Below.refl _ _).alloc (Nat.le_refl _) _).alloc (by simp) _
  have hE2 : V2.cell? ⟨0, 0, none⟩ = some (.iface 178 (.agg #[hnd 29])) := hE.below b2
  have ht2 : V2.cell? t = some old := by rw [← hV2, World.cell?_alloc_lt _ _ t (by omega), ← hV1, World.cell?_alloc_lt _ _ t tlt]; exact ht
  have hf2 : V2.frozen? t = false := by rw [← hV2, World.frozen?_alloc_old _ _ t (by omega), ← hV1, World.frozen?_alloc_old _ _ t (Nat.ne_of_lt tlt)]; exact hf
  have ca := as_EF k (.iface 114 (.pointer (some t))) ⟨w.heap.size, 0, none⟩ V2
  have CA := Lib.hid ca
  have B2 := Lib.hid b2
  clear ca b2 z1 ht2 hf2
  unfold hnd at hE2 CA
  subst hV2
  subst hV1
  go_enter Tryz.func63, Tryz.ntmps63
  go_wp2_with (go_at_call 95; refine CA.out.mono ?_; rintro e w3 ⟨rfl, hL4⟩)
  go_ret
  exact ⟨rfl, below_mr B2.out hL4 (by simp; omega)⟩
end Go.Proofs.YtpfmhohldfnhmaaGreatDoor
set_option linter.unusedVariables false
set_option linter.unusedSimpArgs false
namespace Lk
open Go Go.RowKit
def podd (c : UInt8) : Bool := Lib.onesCount c.toNat % 2 == 1
def podd1 (c : UInt8) : UInt8 := if podd c then c else c ^^^ 1
def oddTo (l : List UInt8) (k : Nat) : List UInt8 := (List.range l.length).map fun i => if i < k then podd1 (g8 l i) else g8 l i
def podds (l : List UInt8) : List UInt8 := oddTo l l.length
theorem oddTo_len (l : List UInt8) (k : Nat) : (oddTo l k).length = l.length := by unfold oddTo; simp
theorem podds_len (l : List UInt8) : (podds l).length = l.length := oddTo_len _ _
theorem oddTo_at (l : List UInt8) (k i : Nat) (hi : i < l.length) : g8 (oddTo l k) i = if i < k then podd1 (g8 l i) else g8 l i := by
  unfold oddTo
  rw [g8_lt (by simpa using hi)]
  simp
theorem oddTo_zero (l : List UInt8) : oddTo l 0 = l := same_ext (oddTo_len _ _) fun i hi => by
  rw [oddTo_at l 0 i (by rw [oddTo_len] at hi; exact hi), if_neg (by omega)]
theorem oddTo_next (l : List UInt8) (k : Nat) (hk : k < l.length) (x : UInt8) (hx : x = podd1 (g8 l k)) : (oddTo l k).set k x = oddTo l (k + 1) := by
  refine same_ext (by simp [oddTo_len]) fun i hi => ?_
  rw [List.length_set, oddTo_len] at hi
  rw [oddTo_at l (k + 1) i hi]
  by_cases hik : i = k
  · subst hik
    rw [if_pos (by omega), ← hx, g8_lt (by rw [List.length_set, oddTo_len]; exact hi)]
    simp
  · have : g8 ((oddTo l k).set k x) i = g8 (oddTo l k) i := by
      unfold g8
      rw [List.getD_eq_getElem?_getD, List.getD_eq_getElem?_getD, List.getElem?_set_ne (Ne.symm hik)]
    rw [this, oddTo_at l k i hi]
    by_cases h : i < k
    · rw [if_pos h, if_pos (by omega)]
    · rw [if_neg h, if_neg (by omega)]
theorem oddTo_stay (l : List UInt8) (k : Nat) (hk : k < l.length) (h : podd (g8 l k) = true) : oddTo l k = oddTo l (k + 1) := by
  refine same_ext (by simp [oddTo_len]) fun i hi => ?_
  rw [oddTo_len] at hi
  rw [oddTo_at l k i hi, oddTo_at l (k + 1) i hi]
  by_cases hik : i = k
  · subst hik
    rw [if_neg (by omega), if_pos (by omega)]
    unfold podd1
    rw [if_pos h]
  · by_cases h : i < k
    · rw [if_pos h, if_pos (by omega)]
    · rw [if_neg h, if_neg (by omega)]
end Lk
namespace Go.Proofs.YtpfmhohldfnhmaaGreatDoor
open Go.RowKit Lk
theorem own_cap {w : World} {base : Nat} {A : Option Addr} {L c : Nat} {l : List UInt8} (h : Own w base (.slice A L c) l) : c ≤ maxLen := by
  obtain ⟨A', c', e, _, _, h2, _⟩ := h.slB
  simp only [Value.slice.injEq] at e
  rw [e.2.2]; exact h2
end Go.Proofs.YtpfmhohldfnhmaaGreatDoor
set_option linter.unusedVariables false
set_option linter.unusedSimpArgs false
namespace Lk
open Go Go.RowKit
def firstFrom : List UInt8 → Nat → Int
  | [], _ => -1
  | c :: r, i => if podd c then firstFrom r (i + 1) else i
def pfirst (l : List UInt8) : Int := firstFrom l 0
theorem drop_one (l : List UInt8) (k : Nat) (hk : k < l.length) : l.drop k = g8 l k :: l.drop (k + 1) := by
  rw [List.drop_eq_getElem_cons hk, g8_lt hk]
theorem first_odd (l : List UInt8) (k : Nat) (hk : k < l.length) (h : podd (g8 l k) = true) : firstFrom (l.drop k) k = firstFrom (l.drop (k + 1)) (k + 1) := by
  rw [drop_one l k hk, firstFrom, if_pos h]
theorem first_even (l : List UInt8) (k : Nat) (hk : k < l.length) (h : podd (g8 l k) = false) : firstFrom (l.drop k) k = k := by
  rw [drop_one l k hk, firstFrom, if_neg (by rw [h]; decide)]
theorem first_end (l : List UInt8) (k : Nat) (hk : l.length ≤ k) : firstFrom (l.drop k) k = -1 := by
  rw [List.drop_eq_nil_of_le hk, firstFrom]
def sumTo (c : UInt8) (j : Nat) : Int := ((byteBits c).take j).sum
theorem sumTo_next (c : UInt8) (j : Nat) (hj : j < 8) : sumTo c (j + 1) = sumTo c j + (byteBits c).getD j 0 := by
  unfold sumTo
  have h8 : j < (byteBits c).length := by rw [byteBits_len]; exact hj
  rw [List.take_succ_eq_append_getElem h8, List.sum_append, List.getD_eq_getElem?_getD, List.getElem?_eq_getElem h8, Option.getD_some, List.sum_cons, List.sum_nil, Int.add_zero]
theorem bit_01 (c : UInt8) (j : Nat) : 0 ≤ (byteBits c).getD j 0 ∧ (byteBits c).getD j 0 ≤ 1 := by
  rcases Nat.lt_or_ge j 8 with h | h
  · simp [byteBits, List.getD_eq_getElem?_getD, h, pbit]
    omega
  · have : (byteBits c).getD j 0 = 0 := by rw [List.getD_eq_getElem?_getD, List.getElem?_eq_none (by rw [byteBits_len]; exact h)]; rfl
    rw [this]; decide
theorem sumTo_bd (c : UInt8) (j : Nat) : 0 ≤ sumTo c j ∧ sumTo c j ≤ 8 := by
  have h : ∀ j, j ≤ 8 → 0 ≤ sumTo c j ∧ sumTo c j ≤ j := by
    intro j
    induction j with
    | zero => intro _; simp [sumTo]
    | succ j ih =>
      intro hj
      have := ih (by omega)
      rw [sumTo_next c j (by omega)]
      have := bit_01 c j
      omega
  rcases Nat.lt_or_ge j 8 with h8 | h8
  · have := h j (by omega); omega
  · have := h 8 (by omega)
    have e : sumTo c j = sumTo c 8 := by unfold sumTo; rw [List.take_of_length_le (by rw [byteBits_len]; exact h8), List.take_of_length_le (by rw [byteBits_len]; omega)]
    rw [e]; omega
theorem sum_all : allB (fun c => (decide (sumTo c 8 % 2 = 0)) == !podd c) = true := by decide +kernel
theorem sum_podd (c : UInt8) : decide (sumTo c 8 % 2 = 0) = !podd c := by simpa using allB_spec sum_all c
theorem pbits_one (c : UInt8) : pbits [c] = byteBits c := by simp [pbits]
end Lk
set_option linter.unusedVariables false
set_option linter.unusedSimpArgs false
namespace Lk
open Go Go.RowKit
theorem podds_map (l : List UInt8) : podds l = l.map podd1 := by
  refine same_ext (by rw [podds_len, List.length_map]) fun i hi => ?_
  rw [podds_len] at hi
  unfold podds
  rw [oddTo_at l _ i hi, if_pos hi, g8_lt (l := l.map podd1) (by simpa using hi)]
  simp [g8_lt hi]
theorem podds_take (l : List UInt8) (k : Nat) (hk : k < l.length) : podds (l.take (k + 1)) = podds (l.take k) ++ [podd1 (g8 l k)] := by
  rw [podds_map, podds_map, take_one l k hk, List.map_append]; rfl
theorem low_all : allB (fun c => (Nat.beq (Nat.mod c.toNat 2) 1 && Nat.beq (c ^^^ 1).toNat (Nat.sub c.toNat 1)) || (Nat.beq (Nat.mod c.toNat 2) 0 && Nat.beq (c ^^^ 1).toNat (Nat.add c.toNat 1))) = true := by decide +kernel
theorem low_spec (c : UInt8) : (bv c % 2 = 1 ∧ bv (c ^^^ 1) = bv c - 1) ∨ (bv c % 2 = 0 ∧ bv (c ^^^ 1) = bv c + 1) := by
  have h := allB_spec low_all c
  simp only [Bool.or_eq_true, Bool.and_eq_true, Nat.beq_eq_true_eq] at h
  unfold bv
  rcases h with ⟨h1, h2⟩ | ⟨h1, h2⟩
  · left
    have h1 : c.toNat % 2 = 1 := Nat.eq_of_beq_eq_true h1
    have h2 : (c ^^^ 1).toNat = c.toNat - 1 := Nat.eq_of_beq_eq_true h2
    omega
  · right
    have h1 : c.toNat % 2 = 0 := Nat.eq_of_beq_eq_true h1
    have h2 : (c ^^^ 1).toNat = c.toNat + 1 := Nat.eq_of_beq_eq_true h2
    omega
/-- 0: a key's length may be; else the error -/
def psz (kind : Int) (n : Nat) : Int := if kind ≠ 1 ∧ kind ≠ 2 then 1 else if n = 16 ∨ n = 24 ∨ (kind = 1 ∧ n = 32) then 0 else 2
end Lk
namespace Go.Proofs.YtpfmhohldfnhmaaGreatDoor
open Go.RowKit Lk
end Go.Proofs.YtpfmhohldfnhmaaGreatDoor
set_option linter.unusedVariables false
set_option linter.unusedSimpArgs false
namespace Go.Proofs.YtpfmhohldfnhmaaGreatDoor
open Go.RowKit Lk
end Go.Proofs.YtpfmhohldfnhmaaGreatDoor
set_option linter.unusedVariables false
set_option linter.unusedSimpArgs false
namespace Lk
open Go Go.RowKit
theorem first_one (c : UInt8) : pfirst [c] = if podd c then -1 else 0 := by
  unfold pfirst
  rw [firstFrom]
  split <;> simp [firstFrom]
end Lk
namespace Go.Proofs.YtpfmhohldfnhmaaGreatDoor
open Go.RowKit Lk
end Go.Proofs.YtpfmhohldfnhmaaGreatDoor
set_option linter.unusedVariables false
set_option linter.unusedSimpArgs false
namespace Go.Proofs.YtpfmhohldfnhmaaGreatDoor
open Go.RowKit Lk
/-- 0: no error -/
def errv (k : Int) : Value := if k = 0 then .nilIface else .iface 107 (.int .i64 k)
theorem errv_0 : errv 0 = .nilIface := rfl
theorem errv_k {k : Int} (h : k ≠ 0) : errv k = .iface 107 (.int .i64 k) := by unfold errv; rw [if_neg h]
/-- what is wrong: nothing, or a number with places around it -/
def ErO (w : World) : Option (List Int × Int) → Value → Prop
  | none, v => v = .nilIface
  | some p, v => ErV w p.1 p.2 v
theorem ErO.below {w w1 : World} {r : Option (List Int × Int)} {v : Value} (h : ErO w r v) (hL : Below w.heap.size w w1) : ErO w1 r v := by
  cases r with
  | none => exact h
  | some p => exact ErV.below h hL
/-- what is wrong with a key -/
def pright (kind : Int) (l : List UInt8) : Option (List Int × Int) :=
  if psz kind l.length ≠ 0 then some ([], psz kind l.length) else if kind = 2 ∧ 0 ≤ pfirst l then some ([pfirst l], 3) else none
theorem first_bd : ∀ (l : List UInt8) (i : Nat), firstFrom l i = -1 ∨ ((i : Int) ≤ firstFrom l i ∧ firstFrom l i < (i : Int) + (l.length : Int)) := by
  intro l
  induction l with
  | nil => intro i; left; rfl
  | cons c r ih =>
    intro i
    rw [firstFrom]
    split
    · rcases ih (i + 1) with h | h
      · left; exact h
      · right; simp; omega
    · right; simp; omega
end Go.Proofs.YtpfmhohldfnhmaaGreatDoor
