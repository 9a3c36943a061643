/- The reference's bits and bytes. -/
import Derived.Test.YtbbfjlnkhenbiaaDoorKB5
import Derived.BigFrame
import Derived.Test.YtbbfjlnkhenbiaaDoorProg
import Derived.WalkKit
import Derived.LaidEql
import Derived.Stop.Asserts
import Derived.RowKitTokens
import Derived.Test.YtbbfjlnkhenbiaaDoorKB0
import Derived.Deep.LoopGhost
set_option linter.unusedVariables false
set_option linter.unusedSimpArgs false
namespace Lk
open Go Go.RowKit
def pbit (c : UInt8) (i : Nat) : Int := ((c.toNat / 2 ^ i % 2 : Nat) : Int)
def byteBits (c : UInt8) : List Int := (List.range 8).map fun j => pbit c (7 - j)
def pbits : List UInt8 → List Int
  | [] => []
  | c :: r => byteBits c ++ pbits r
theorem pbits_app (a b : List UInt8) : pbits (a ++ b) = pbits a ++ pbits b := by
  induction a with
  | nil => rfl
  | cons c r ih => simp [pbits, ih]
theorem byteBits_len (c : UInt8) : (byteBits c).length = 8 := by simp [byteBits]
theorem pbits_len (l : List UInt8) : (pbits l).length = 8 * l.length := by
  induction l with
  | nil => rfl
  | cons c r ih => simp [pbits, ih, byteBits_len]; omega
theorem take_one (l : List UInt8) (k : Nat) (hk : k < l.length) : l.take (k + 1) = l.take k ++ [g8 l k] := by
  rw [List.take_succ_eq_append_getElem hk, g8_lt hk]
theorem pbits_take (l : List UInt8) (k : Nat) (hk : k < l.length) : pbits (l.take (k + 1)) = pbits (l.take k) ++ byteBits (g8 l k) := by
  rw [take_one l k hk, pbits_app]
  simp [pbits]
theorem byteBits_take (c : UInt8) (s : Nat) (hs : s < 8) : (byteBits c).take (7 - s) ++ [pbit c s] = (byteBits c).take (8 - s) := by
  rw [show 8 - s = (7 - s) + 1 by omega, List.take_succ_eq_append_getElem (by rw [byteBits_len]; omega)]
  congr 1
  simp [byteBits]
  congr 1
  omega
theorem and_pbit (c : UInt8) (s : Nat) : Go.bits .and .i64 (bv c / (2 : Int) ^ s) 1 = pbit c s := by
  have h : bv c / (2 : Int) ^ s = ((c.toNat / 2 ^ s : Nat) : Int) := by unfold bv; norm_cast
  have hc := c.toNat_lt
  have hd := Nat.div_le_self c.toNat (2 ^ s)
  rw [h, show (1 : Int) = ((1 : Nat) : Int) from rfl, bits_and_i64 _ _ (by omega) (by omega)]
  unfold pbit
  rw [Nat.and_one_is_mod]
end Lk
namespace Go.Proofs.YtbbfjlnkhenbiaaDoor
open Go.RowKit Lk
set_option maxHeartbeats 1000000 in
set_option maxRecDepth 100000 in
theorem Bits_any (v : Value) (l : List UInt8) (w : World) (h : SlB w v l) (hl : l.length ≤ 1000) :
    Calls Tryd.prog 92 #[v] w fun e w' => ∃ v', e = .returned v' ∧ OwnV w' w.heap.size intt v' (Is (pbits l)) ∧ Below w.heap.size w w' := by
  obtain ⟨N, hN⟩ : ∃ N, w.heap.size = N := ⟨_, rfl⟩
  obtain ⟨L, hL⟩ : ∃ L, l.length = L := ⟨_, rfl⟩
  have HN := Lib.hid hN
  have EL := Lib.hid hL
  obtain ⟨A, c, rfl, n1, n2, n3, n4⟩ := h
  rw [hL] at hl n2 ⊢
  have N4 := Lib.hid n4
  clear hN hL n1 n4
  have ho0 : OwnV w N intt (.slice none 0 0) (Is (pbits (l.take 0))) := ownV_nil _ _ _
  have hL0 : Below N w w := Below.refl _ _
  go_enter Tryd.func92, Tryd.ntmps92
  go_wp2
  go_loopw [3, 4] (fun o i wr => ∃ k : Nat, k ≤ L ∧ i = .int .i64 k ∧ OwnV wr N intt o (Is (pbits (l.take k))) ∧ Below N w wr) (fun _ i _ => L - (intOf i).toNat)
  case atStart => exact ⟨0, by omega, rfl, ho0, hL0⟩
  case round =>
    clear ho0 hL0
    obtain ⟨k, hk, rfl, hO, hB⟩ := hrel
    by_cases hlt : k < L
    · obtain ⟨g, o, rfl, hr⟩ := N4.out (by omega)
      have hgN : g < N := by rw [← HN.out]; exact block_of_cell (hr 0 (by rw [EL.out]; omega))
      have HR := Lib.hid (show ∀ wq, Below N w wq → wq.cell? ⟨g, o + k, none⟩ = some (.int .u8 (bv (g8 l k))) from fun wq hq => cell_below (hr k (by rw [EL.out]; exact hlt)) hq hgN)
      have HLT := Lib.hid hlt
      have HO := Lib.hid hO
      have HB := Lib.hid hB
      clear hr hO hB
      go_wp2
      obtain ⟨wo, ewo⟩ : ∃ wo : World, wo = wr := ⟨_, rfl⟩
      subst ewo
      go_loopw [3, 5] (fun o i wr => ∃ r : Nat, r ≤ 8 ∧ i = .int .i64 ((r : Int) - 1) ∧ OwnV wr N intt o (Is (pbits (l.take k) ++ (byteBits (g8 l k)).take (8 - r))) ∧ Below N w wr) (fun _ i _ => (intOf i + 1).toNat)
      case atStart => exact ⟨8, by omega, rfl, by simpa using HO.out, HB.out⟩
      case round =>
        clear HO HB
        obtain ⟨r, hr8, rfl, hO, hB⟩ := hrel
        have HO := Lib.hid hO
        rcases r with _ | s
        · have HB := Lib.hid hB
          clear hO hB
          go_wp2
          go_roundw
          case rel =>
            refine ⟨k + 1, HLT.out, by go_num, ?_, HB.out⟩
            rw [pbits_take l k (by rw [EL.out]; exact HLT.out)]
            have := HO.out
            rw [List.take_of_length_le (l := byteBits (g8 l k)) (by rw [byteBits_len]; omega)] at this
            exact this
          case measure => have : k < L := HLT.out; simp [intOf]; omega
        · have c1 := HR.out _ hB
          have es : (((s + 1 : Nat) : Int) - 1) = (s : Int) := by omega
          rw [es]
          have HB := Lib.hid hB
          have HS := Lib.hid hr8
          have b0 := bv_ge (g8 l k)
          have b1 := bv_lt (g8 l k)
          have ea := and_pbit (g8 l k) s
          have hx := byteBits_take (g8 l k) s (by omega)
          have HX := Lib.hid hx
          clear hO hB es hx
          go_wp2_with (at_builtin; refine append_v hu_isl hi_int (by decide) (by decide) rfl rfl _ _ rfl N _ _ (by rfl) (HO.out.alloc _) _ [.int .i64 (pbit (g8 l k) s)] (by rfl) (one_slV _ _ _) (Is_one [pbit (g8 l k) s]) (by simp [Is_len, pbits_len, byteBits_len]; omega) (by simp; exact Nat.le_trans (Nat.le_of_eq HN.out.symm) (by have := HB.out.size; have := HN.out; omega)) ?_; intro v2 w2 hO2 hG2; have hB2 : Below N w w2 := below_own (below_alloc HB.out (by have := HB.out.size; have := HN.out; omega) _) (by simp; have := HB.out.size; have := HN.out; omega) hG2 (fun q hq => (HO.out.lt q hq).1))
          go_roundw
          case rel =>
            refine ⟨s, by have := HS.out; omega, by go_num, ?_, hB2⟩
            have h2 := hO2
            rw [show ([Value.int .i64 (pbit (g8 l k) s)] : List Value) = Is [pbit (g8 l k) s] from rfl, ← Is_app, List.append_assoc, show 8 - (s + 1) = 7 - s by omega, HX.out] at h2
            exact h2
          case measure => simp [intOf]
    · have HE := Lib.hid (show k = L by omega)
      have HO := Lib.hid hO
      have HB := Lib.hid hB
      clear hO hB
      go_wp2
      go_ret
      refine ⟨_, rfl, ?_, by rw [HN.out]; exact HB.out⟩
      have := HO.out
      rw [HE.out, List.take_of_length_le (by rw [EL.out]; exact Nat.le_refl _)] at this
      rw [HN.out]
      exact this
end Go.Proofs.YtbbfjlnkhenbiaaDoor
set_option linter.unusedVariables false
set_option linter.unusedSimpArgs false
namespace Lk
open Go Go.RowKit
section
variable {P : Program} {ops : Array Oper} {rest : List Oper} {o : Oper} {a : Act} {w : World} {Q : Exit → Act → World → Prop}
theorem store_o (hgd : o.guard = none) (ty : TypeId) (x y : Operand) (ho : o.op = .store ty x y) (base g k L c : Nat) (l : List UInt8) (ch : UInt8) (hx : a.eval x = .pointer (some ⟨g, k, none⟩)) (z : Int) (hy : a.eval y = .int .u8 z) (hz : z = bv ch) (hO : Own w base (.slice (some ⟨g, 0, none⟩) L c) l) (hk : k < l.length)
    (hi : (P.info? ty).map (·.size) = some 1)
    (h : ∀ w1, Own w1 base (.slice (some ⟨g, 0, none⟩) L c) (l.set k ch) → w.grownBy w1 (some g) → w1.heap.size = w.heap.size → wpList P ops Q rest (a.put o.dst undef) w1) : wpList P ops Q (o :: rest) a w :=
  wpList_plain hgd fun _ hK => by
    subst hz
    have e : L = l.length := hO.len
    subst e
    unfold Oper.wp execOp
    simp only [ho, hx, hy, Instr.storeAt, Instr.sureAddr, Sem.run_bind, Sem.run_pure, Result.andThen_ok, run_storeVar_one w g k ty _ (.int .u8 (bv ch)) (hO.cell k hk) (hO.free k) rfl hi]
    exact hK _ _ (h _ (hO.stored k ch) (grown_set (grown_refl _ _) _ _) (World.size_setCell ..))
/-- a whole array of bytes read, the operation guarded and wanted -/
theorem load_blk_g (hw : Region.wanted o (yielded ops a.tmps) = true) (ty : TypeId) (x : Operand) (ho : o.op = .load ty x) (g T n e : Nat) (l : List UInt8) (hx : a.eval x = .pointer (some ⟨g, 0, none⟩)) (hB : Blk w g T l) (hl : l.length = n)
    (hu : P.underlying ty = some (.array n e)) (hi : (P.info? ty).map (·.size) = some n)
    (h : wpList P ops Q rest (a.put o.dst (.agg (Bs l))) w) : wpList P ops Q (o :: rest) a w :=
  wpList_step fun K hK => by
    simp only [hw, if_true]
    unfold Oper.wp execOp
    simp only [ho, hx, Instr.loadAt, Instr.sureAddr, Sem.run_bind, Sem.run_pure, Result.andThen_ok, run_loadVar_row w g T ty (Bs l) (0, 0) _ hB hu rfl (by rw [Bs_size, hl, hi])]
    exact hK _ _ h
end
end Lk
set_option linter.unusedVariables false
set_option linter.unusedSimpArgs false
namespace Lk
open Go Go.RowKit Go.Extern.Stop Go.Stop Go.Extern
theorem rlm (z : Sem Value) (f : TypeId → Addr → Nat → Nat → Sem Value) (v : Value) :
    ReflectliteValue.method z f #[v] = (do match ← ReflectliteValue.parts v with | none => z | some (t, a, fl) => f t a fl (fl % 32)) := rfl
theorem rls (v x : Value) : ReflectliteValue.set #[v, x] = (do
    let (some (dst, a, fl), some (src, b, _)) := (← ReflectliteValue.parts v, ← ReflectliteValue.parts x)
      | unsupported (.noEntry "extern/(internal/reflectlite.Value).Set.zeroValue")
    if fl / ReflectliteValue.flagAddr % 2 == 0 then unsupported (.noEntry "extern/(internal/reflectlite.Value).Set.unaddressable")
    let val ← loadVar src b
    if ← Rtype.directlyAssignable dst src then storeVar dst a val
    else if ← Rtype.implements dst src then
      if (← Rtype.kind src) == 20 then
        match val with
        | .nilIface => unsupported (.noEntry "extern/reflectlite: a nil value of one interface type handed on as a value of another")
        | _ => storeVar dst a val
      else storeVar dst a (.iface src val)
    else panicString ("reflectlite.Set: value of type " ++ (← Rtype.spelt src) ++ " is not assignable to type " ++ (← Rtype.spelt dst))
    pure (.tuple #[])) := rfl
end Lk
namespace Go.Proofs.YtbbfjlnkhenbiaaDoor
open Go.RowKit Go.Extern.Stop Go.Stop Go.Extern Lk
def hnd (t : Nat) : Value := .pointer (some ⟨2, t, none⟩)

theorem valueOfPE (t : Addr) (w : World) : (ReflectliteValue.unpack (.iface 73 (.pointer (some t)))).run Tryd.prog w
    = .ok (.agg #[.pointer (some ⟨2, 73, none⟩), .pointer (some ⟨w.heap.size, 0, none⟩), .int .u64 150]) (w.alloc (.cells #[.pointer (some t)] 73)) := by kernel_rfl
theorem typePE (a : Addr) (w : World) : (ReflectliteValue.methodAny (ReflectliteValue.valueError "reflectlite.Value.Type" 0) (fun t _ _ _ => ReflectliteType.toType t) #[.agg #[.pointer (some ⟨2, 73, none⟩), .pointer (some a), .int .u64 150]]).run Tryd.prog w
    = .ok (.iface 131 (.agg #[.pointer (some ⟨2, 73, none⟩)])) w := by kernel_rfl
theorem kindPE (w : World) : ((ReflectliteType.abiMethod fun t => (fun a : Nat => Value.int IntKind.u8 (a : Int)) <$> Rtype.kind t) #[.pointer (some ⟨2, 73, none⟩)]).run Tryd.prog w = .ok (.int .u8 22) w := by kernel_rfl
theorem kindE (w : World) : ((ReflectliteType.abiMethod fun t => (fun a : Nat => Value.int IntKind.u8 (a : Int)) <$> Rtype.kind t) #[.pointer (some ⟨2, 68, none⟩)]).run Tryd.prog w = .ok (.int .u8 2) w := by kernel_rfl
theorem partsPE (a : Addr) (w : World) : (ReflectliteValue.parts (.agg #[.pointer (some ⟨2, 73, none⟩), .pointer (some a), .int .u64 150])).run Tryd.prog w = .ok (some (73, a, 150)) w := by kernel_rfl
theorem undPE : Tryd.prog.underlying 73 = some (.pointer 68) := by kernel_rfl
theorem undE : Tryd.prog.underlying 68 = some (.int .i64) := by kernel_rfl
theorem isNilPE (a p : Addr) (W : World) (ha : W.cell? a = some (.pointer (some p))) :
    (ReflectliteValue.method (ReflectliteValue.valueError "reflectlite.Value.IsNil" 0) ReflectliteValue.isNil #[.agg #[.pointer (some ⟨2, 73, none⟩), .pointer (some a), .int .u64 150]]).run Tryd.prog W = .ok (.bool false) W := by
  rw [rlm]
  simp only [Sem.run_bind, partsPE, Result.andThen]
  simp [ReflectliteValue.isNil, loadVar, isAgg, underlying, undPE, ha, Result.andThen]
theorem elemPE (w : World) : (ReflectliteType.method ReflectliteType.elem #[.agg #[.pointer (some ⟨2, 73, none⟩)]]).run Tryd.prog w = .ok (.iface 131 (.agg #[.pointer (some ⟨2, 68, none⟩)])) w := by kernel_rfl
theorem implementsE (w : World) : (ReflectliteType.relation "Implements" ReflectliteType.implements_ #[.agg #[.pointer (some ⟨2, 68, none⟩)], .iface 131 (.agg #[.pointer (some ⟨2, 29, none⟩)])]).run Tryd.prog w = .ok (.bool true) w := by kernel_rfl
theorem elemOfPE (w : World) : (Rtype.elem? 73).run Tryd.prog w = .ok (some 68) w := by kernel_rfl
theorem mkE (p : Addr) (w : World) : (ReflectliteValue.mk 68 p ReflectliteValue.flagAddr).run Tryd.prog w = .ok (.agg #[.pointer (some ⟨2, 68, none⟩), .pointer (some p), .int .u64 386]) w := by kernel_rfl
theorem elemVPE (a p : Addr) (W : World) (ha : W.cell? a = some (.pointer (some p))) :
    (ReflectliteValue.method (ReflectliteValue.valueError "reflectlite.Value.Elem" 0) ReflectliteValue.elem #[.agg #[.pointer (some ⟨2, 73, none⟩), .pointer (some a), .int .u64 150]]).run Tryd.prog W
      = .ok (.agg #[.pointer (some ⟨2, 68, none⟩), .pointer (some p), .int .u64 386]) W := by
  rw [rlm]
  simp only [Sem.run_bind, partsPE, Result.andThen]
  simp [ReflectliteValue.elem, loadVar, isAgg, underlying, undPE, ha, Result.andThen, elemOfPE, mkE]
theorem partsEa (a : Addr) (w : World) : (ReflectliteValue.parts (.agg #[.pointer (some ⟨2, 68, none⟩), .pointer (some a), .int .u64 386])).run Tryd.prog w = .ok (some (68, a, 386)) w := by kernel_rfl
theorem partsE (a : Addr) (w : World) : (ReflectliteValue.parts (.agg #[.pointer (some ⟨2, 68, none⟩), .pointer (some a), .int .u64 130])).run Tryd.prog w = .ok (some (68, a, 130)) w := by kernel_rfl
theorem directE (w : World) : (Rtype.directlyAssignable 68 68).run Tryd.prog w = .ok true w := by kernel_rfl
theorem sizeE (w : World) : (sizeOf 68).run Tryd.prog w = .ok 1 w := by kernel_rfl
theorem typeOfE (v : Value) (w : World) : (ReflectliteType.typeOf #[.iface 68 v]).run Tryd.prog w = .ok (.iface 131 (.agg #[.pointer (some ⟨2, 68, none⟩)])) w := by kernel_rfl
theorem valueOfE (k : Int) (w : World) : (ReflectliteValue.unpack (.iface 68 (.int .i64 k))).run Tryd.prog w
    = .ok (.agg #[.pointer (some ⟨2, 68, none⟩), .pointer (some ⟨w.heap.size, 0, none⟩), .int .u64 130]) (w.alloc (.cells #[.int .i64 k] 68)) := by kernel_rfl
theorem setE (ta b : Addr) (k : Int) (old : Value) (W : World) (hb : W.cell? b = some (.int .i64 k)) (ht : W.cell? ta = some old) (hf : W.frozen? ta = false) :
    (ReflectliteValue.set #[.agg #[.pointer (some ⟨2, 68, none⟩), .pointer (some ta), .int .u64 386], .agg #[.pointer (some ⟨2, 68, none⟩), .pointer (some b), .int .u64 130]]).run Tryd.prog W
      = .ok (.tuple #[]) (W.setCell ta (.int .i64 k)) := by
  rw [rls]
  simp only [Sem.run_bind, partsEa, partsE, Result.andThen]
  simp [ReflectliteValue.flagAddr, loadVar, isAgg, underlying, undE, hb, Result.andThen, directE, storeVar, Value.cells, storeCells, Addr.add]
  rw [run_store Tryd.prog W ta _ _ (by rfl)]
  simp [ht, hf]

theorem kindF (w : World) : ((ReflectliteType.abiMethod fun t => (fun a : Nat => Value.int IntKind.u8 (a : Int)) <$> Rtype.kind t) #[.pointer (some ⟨2, 178, none⟩)]).run Tryd.prog w = .ok (.int .u8 22) w := by kernel_rfl
theorem undF : Tryd.prog.underlying 178 = some (.pointer 180) := by kernel_rfl
theorem implementsF (w : World) : (ReflectliteType.relation "Implements" ReflectliteType.implements_ #[.agg #[.pointer (some ⟨2, 178, none⟩)], .iface 131 (.agg #[.pointer (some ⟨2, 29, none⟩)])]).run Tryd.prog w = .ok (.bool true) w := by kernel_rfl
theorem mkF (p : Addr) (w : World) : (ReflectliteValue.mk 178 p ReflectliteValue.flagAddr).run Tryd.prog w = .ok (.agg #[.pointer (some ⟨2, 178, none⟩), .pointer (some p), .int .u64 406]) w := by kernel_rfl
theorem partsFa (a : Addr) (w : World) : (ReflectliteValue.parts (.agg #[.pointer (some ⟨2, 178, none⟩), .pointer (some a), .int .u64 406])).run Tryd.prog w = .ok (some (178, a, 406)) w := by kernel_rfl
theorem partsF (a : Addr) (w : World) : (ReflectliteValue.parts (.agg #[.pointer (some ⟨2, 178, none⟩), .pointer (some a), .int .u64 150])).run Tryd.prog w = .ok (some (178, a, 150)) w := by kernel_rfl
theorem directF (w : World) : (Rtype.directlyAssignable 178 178).run Tryd.prog w = .ok true w := by kernel_rfl
theorem sizeF (w : World) : (sizeOf 178).run Tryd.prog w = .ok 1 w := by kernel_rfl
theorem typeOfF (v : Value) (w : World) : (ReflectliteType.typeOf #[.iface 178 v]).run Tryd.prog w = .ok (.iface 131 (.agg #[.pointer (some ⟨2, 178, none⟩)])) w := by kernel_rfl
theorem valueOfF (e : Addr) (w : World) : (ReflectliteValue.unpack (.iface 178 (.pointer (some e)))).run Tryd.prog w
    = .ok (.agg #[.pointer (some ⟨2, 178, none⟩), .pointer (some ⟨w.heap.size, 0, none⟩), .int .u64 150]) (w.alloc (.cells #[.pointer (some e)] 178)) := by kernel_rfl
theorem setF (ta b : Addr) (e : Addr) (old : Value) (W : World) (hb : W.cell? b = some (.pointer (some e))) (ht : W.cell? ta = some old) (hf : W.frozen? ta = false) :
    (ReflectliteValue.set #[.agg #[.pointer (some ⟨2, 178, none⟩), .pointer (some ta), .int .u64 406], .agg #[.pointer (some ⟨2, 178, none⟩), .pointer (some b), .int .u64 150]]).run Tryd.prog W
      = .ok (.tuple #[]) (W.setCell ta (.pointer (some e))) := by
  rw [rls]
  simp only [Sem.run_bind, partsFa, partsF, Result.andThen]
  simp [ReflectliteValue.flagAddr, loadVar, isAgg, underlying, undF, hb, Result.andThen, directF, storeVar, Value.cells, storeCells, Addr.add]
  rw [run_store Tryd.prog W ta _ _ (by rfl)]
  simp [ht, hf]

theorem asgEE (w : World) : (ReflectliteType.relation "AssignableTo" ReflectliteType.assignableTo #[.agg #[.pointer (some ⟨2, 68, none⟩)], .iface 131 (.agg #[.pointer (some ⟨2, 68, none⟩)])]).run Tryd.prog w = .ok (.bool true) w := by kernel_rfl
theorem asgFE (w : World) : (ReflectliteType.relation "AssignableTo" ReflectliteType.assignableTo #[.agg #[.pointer (some ⟨2, 178, none⟩)], .iface 131 (.agg #[.pointer (some ⟨2, 68, none⟩)])]).run Tryd.prog w = .ok (.bool false) w := by kernel_rfl
theorem asgFF (w : World) : (ReflectliteType.relation "AssignableTo" ReflectliteType.assignableTo #[.agg #[.pointer (some ⟨2, 178, none⟩)], .iface 131 (.agg #[.pointer (some ⟨2, 178, none⟩)])]).run Tryd.prog w = .ok (.bool true) w := by kernel_rfl
theorem asgEF (w : World) : (ReflectliteType.relation "AssignableTo" ReflectliteType.assignableTo #[.agg #[.pointer (some ⟨2, 68, none⟩)], .iface 131 (.agg #[.pointer (some ⟨2, 178, none⟩)])]).run Tryd.prog w = .ok (.bool false) w := by kernel_rfl
end Go.Proofs.YtbbfjlnkhenbiaaDoor
set_option linter.unusedVariables false
set_option linter.unusedSimpArgs false
namespace Go.Proofs.YtbbfjlnkhenbiaaDoor
open Go.RowKit Go.Extern.Stop Go.Stop Go.Extern Lk
/-- package errors' variable errorType is laid. -/
def Et (w : World) : Prop := w.cell? ⟨0, 0, none⟩ = some (.iface 131 (.agg #[hnd 29]))
theorem Et.lt {w : World} (h : Et w) : 0 < w.heap.size := block_of_cell h
theorem Et.below {w w1 : World} (h : Et w) (hL : Below w.heap.size w w1) : Et w1 := (hL.cell (p := ⟨0, 0, none⟩) h.lt).trans h
theorem Et.under {w w1 : World} {N : Nat} (h : Et w) (hL : Below N w w1) (hN : w.heap.size = N) : Et w1 := h.below (by rw [hN]; exact hL)
/-- An error: faults at places 'ats', around a number. -/
def ErV (w : World) : List Int → Int → Value → Prop
  | [], k, v => v = .iface 68 (.int .i64 k)
  | a :: r, k, v => ∃ g u, v = .iface 178 (.pointer (some ⟨g, 0, none⟩)) ∧ w.heap[g]? = some (.cells #[.int .i64 a, u] 180 (0, 0)) ∧ ErV w r k u
theorem ErV.below {w w1 : World} : ∀ {ats : List Int} {k : Int} {v : Value} (_ : ErV w ats k v) (_ : Below w.heap.size w w1), ErV w1 ats k v
  | [], _, _, h, _ => h
  | _ :: _, _, _, ⟨g, u, e, hc, hr⟩, hL => ⟨g, u, e, by
      have hg : g < w.heap.size := (Array.getElem?_eq_some_iff.1 hc).1
      rw [hL.block g hg]; exact hc, ErV.below hr hL⟩
theorem ErV.ne {w : World} : ∀ {ats : List Int} {k : Int} {v : Value} (_ : ErV w ats k v), v ≠ .nilIface
  | [], _, _, h => by intro e; rw [e] at h; cases h
  | _ :: _, _, _, ⟨g, u, e, _, _⟩ => by intro e'; rw [e'] at e; cases e
theorem ErV.form {w : World} : ∀ {ats : List Int} {k : Int} {v : Value} (_ : ErV w ats k v), ∃ T x, v = .iface T x
  | [], _, _, h => ⟨_, _, h⟩
  | _ :: _, _, _, ⟨_, _, e, _, _⟩ => ⟨_, _, e⟩
theorem below_mr {w w1 w2 : World} {B B' : Nat} (h : Below B w w1) (h' : Below B' w1 w2) (hB : B ≤ B') : Below B w w2 := h.trans (h'.mono hB)
theorem asNo (v : Value) (xT : TypeId) (w : World) : (Instr.typeAssert (.iface 68 v) xT 136 true).run Tryd.prog w = .ok (.tuple #[.nilIface, .bool false]) w := run_typeAssert_lacksB Tryd.underlying136 (by kernel_rfl) (by kernel_rfl) v xT w
theorem asNoF (v : Value) (xT : TypeId) (w : World) : (Instr.typeAssert (.iface 178 v) xT 136 true).run Tryd.prog w = .ok (.tuple #[.nilIface, .bool false]) w := run_typeAssert_lacksB Tryd.underlying136 (by kernel_rfl) (by kernel_rfl) v xT w
theorem unwNo (v : Value) (xT : TypeId) (w : World) : (Instr.typeAssert (.iface 68 v) xT 139 true).run Tryd.prog w = .ok (.tuple #[.nilIface, .bool false]) w := run_typeAssert_lacksB Tryd.underlying139 (by kernel_rfl) (by kernel_rfl) v xT w
theorem unwsNo (v : Value) (xT : TypeId) (w : World) : (Instr.typeAssert (.iface 68 v) xT 141 true).run Tryd.prog w = .ok (.tuple #[.nilIface, .bool false]) w := run_typeAssert_lacksB Tryd.underlying141 (by kernel_rfl) (by kernel_rfl) v xT w
theorem unwF (v : Value) (xT : TypeId) (w : World) : (Instr.typeAssert (.iface 178 v) xT 139 true).run Tryd.prog w = .ok (.tuple #[.iface 178 v, .bool true]) w := run_typeAssert_hasB Tryd.underlying139 (by kernel_rfl) v xT w
theorem mKind (h : Value) (w : World) : (Go.method 316 131 (.agg #[h]) "Kind").run Tryd.prog w = .ok (125, h) w := by kernel_rfl
theorem mElem (h : Value) (w : World) : (Go.method 316 131 (.agg #[h]) "Elem").run Tryd.prog w = .ok (137, .agg #[h]) w := by kernel_rfl
theorem mImpl (h : Value) (w : World) : (Go.method 316 131 (.agg #[h]) "Implements").run Tryd.prog w = .ok (138, .agg #[h]) w := by kernel_rfl
theorem mAsg (h : Value) (w : World) : (Go.method 316 131 (.agg #[h]) "AssignableTo").run Tryd.prog w = .ok (135, .agg #[h]) w := by kernel_rfl
theorem mUnw (a : Addr) (w : World) : (Go.method 316 178 (.pointer (some a)) "Unwrap").run Tryd.prog w = .ok (146, .pointer (some a)) w := by kernel_rfl
theorem Unwrap_any (g : Nat) (a : Int) (u : Value) (w : World) (hc : w.heap[g]? = some (.cells #[.int .i64 a, u] 180 (0, 0))) :
    Calls Tryd.prog 146 #[.pointer (some ⟨g, 0, none⟩)] w fun e w' => e = .returned u ∧ w' = w := by
  have c1 : w.cell? ⟨g, 1, none⟩ = some u := by simp [World.cell?, hc]
  go_enter Tryd.func146, Tryd.ntmps146
  go_wp2
  go_ret
  exact ⟨rfl, rfl⟩
set_option maxHeartbeats 4000000 in
set_option maxRecDepth 100000 in
theorem as_EE (k : Int) (tg : Value) (a t : Addr) (old : Value) (w : World) (ha : w.cell? a = some (.pointer (some t))) (ht : w.cell? t = some old) (hf : w.frozen? t = false) :
    Calls Tryd.prog 51 #[.iface 68 (.int .i64 k), tg, .agg #[hnd 73, .pointer (some a), .int .u64 150], .iface 131 (.agg #[hnd 68])] w fun e w' => e = .returned (.bool true) ∧ ∃ w1, Below w.heap.size w w1 ∧ w' = w1.setCell t (.int .i64 k) := by
  have x_vo := @run_callFunc_extern Tryd.prog 48 _ (fun args => ReflectliteValue.unpack (args.getD 0 (.tuple #[]))) Tryd.func48 (by kernel_rfl) (by kernel_rfl) (by kernel_rfl) (by kernel_rfl)
  have x_to := @run_callFunc_extern Tryd.prog 68 _ ReflectliteType.typeOf Tryd.func68 (by kernel_rfl) (by kernel_rfl) (by kernel_rfl) (by kernel_rfl)
  have x_asg := @run_callFunc_extern Tryd.prog 135 _ (ReflectliteType.relation "AssignableTo" ReflectliteType.assignableTo) Tryd.func135 (by kernel_rfl) (by kernel_rfl) (by kernel_rfl) (by kernel_rfl)
  have x_ev := @run_callFunc_extern Tryd.prog 69 _ (ReflectliteValue.method (ReflectliteValue.valueError "reflectlite.Value.Elem" 0) ReflectliteValue.elem) Tryd.func69 (by kernel_rfl) (by kernel_rfl) (by kernel_rfl) (by kernel_rfl)
  have x_set := @run_callFunc_extern Tryd.prog 70 _ ReflectliteValue.set Tryd.func70 (by kernel_rfl) (by kernel_rfl) (by kernel_rfl) (by kernel_rfl)
  unfold hnd
  have m1 := mAsg
  have f1 := typeOfE
  have f2 := asgEE
  have f3 := valueOfE
  have tlt := block_of_cell ht
  have alt := block_of_cell ha
  obtain ⟨V, hV⟩ : ∃ V, w.alloc (.cells #[.pointer (some ⟨2, 73, none⟩), .pointer (some a), .int .u64 150] 99) = V := ⟨_, rfl⟩
  have hVz : V.heap.size = w.heap.size + 1 := by rw [← hV]; simp
  have el := elemVPE a t V (by rw [← hV, World.cell?_alloc_lt _ _ a alt]; exact ha)
  have st := setE t ⟨V.heap.size, 0, none⟩ k old (V.alloc (.cells #[.int .i64 k] 68)) (by rw [World.cell?_alloc_at _ _ _ _ (by simp)]; rfl) (by rw [World.cell?_alloc_lt _ _ t (by omega), ← hV, World.cell?_alloc_lt _ _ t tlt]; exact ht) (by rw [World.frozen?_alloc_old _ _ t (by omega), ← hV, World.frozen?_alloc_old _ _ t (Nat.ne_of_lt tlt)]; exact hf)
  rw [hVz] at st
  clear hVz
  subst hV
  go_enter Tryd.func51, Tryd.ntmps51
  go_wp2
  refine wp_loop_rounds 1 ?_
  rw [rounds_succ]
  go_wp2
  go_ret
  exact ⟨rfl, _, ((Below.refl _ _).alloc (Nat.le_refl _) _).alloc (by simp) _, rfl⟩
set_option maxHeartbeats 4000000 in
set_option maxRecDepth 100000 in
theorem as_E (ats : List Int) (k : Int) (v tg : Value) (a t : Addr) (old : Value) (w : World) (hv : ErV w ats k v) (ha : w.cell? a = some (.pointer (some t))) (ht : w.cell? t = some old) (hf : w.frozen? t = false) :
    Calls Tryd.prog 51 #[v, tg, .agg #[hnd 73, .pointer (some a), .int .u64 150], .iface 131 (.agg #[hnd 68])] w fun e w' => e = .returned (.bool true) ∧ ∃ w1, Below w.heap.size w w1 ∧ w' = w1.setCell t (.int .i64 k) := by
  have x_vo := @run_callFunc_extern Tryd.prog 48 _ (fun args => ReflectliteValue.unpack (args.getD 0 (.tuple #[]))) Tryd.func48 (by kernel_rfl) (by kernel_rfl) (by kernel_rfl) (by kernel_rfl)
  have x_to := @run_callFunc_extern Tryd.prog 68 _ ReflectliteType.typeOf Tryd.func68 (by kernel_rfl) (by kernel_rfl) (by kernel_rfl) (by kernel_rfl)
  have x_asg := @run_callFunc_extern Tryd.prog 135 _ (ReflectliteType.relation "AssignableTo" ReflectliteType.assignableTo) Tryd.func135 (by kernel_rfl) (by kernel_rfl) (by kernel_rfl) (by kernel_rfl)
  have x_ev := @run_callFunc_extern Tryd.prog 69 _ (ReflectliteValue.method (ReflectliteValue.valueError "reflectlite.Value.Elem" 0) ReflectliteValue.elem) Tryd.func69 (by kernel_rfl) (by kernel_rfl) (by kernel_rfl) (by kernel_rfl)
  have x_set := @run_callFunc_extern Tryd.prog 70 _ ReflectliteValue.set Tryd.func70 (by kernel_rfl) (by kernel_rfl) (by kernel_rfl) (by kernel_rfl)
  unfold hnd
  have m1 := mAsg
  have m2 := mUnw
  have f1 := typeOfE
  have f2 := asgEE
  have f3 := valueOfE
  have f4 := typeOfF
  have f5 := asgFE
  have g1 := asNo
  have g2 := asNoF
  have g3 := unwF
  have tlt := block_of_cell ht
  have alt := block_of_cell ha
  obtain ⟨V, hV⟩ : ∃ V, w.alloc (.cells #[.pointer (some ⟨2, 73, none⟩), .pointer (some a), .int .u64 150] 99) = V := ⟨_, rfl⟩
  have hVz : V.heap.size = w.heap.size + 1 := by rw [← hV]; simp
  have el := elemVPE a t V (by rw [← hV, World.cell?_alloc_lt _ _ a alt]; exact ha)
  have st := setE t ⟨V.heap.size, 0, none⟩ k old (V.alloc (.cells #[.int .i64 k] 68)) (by rw [World.cell?_alloc_at _ _ _ _ (by simp)]; rfl) (by rw [World.cell?_alloc_lt _ _ t (by omega), ← hV, World.cell?_alloc_lt _ _ t tlt]; exact ht) (by rw [World.frozen?_alloc_old _ _ t (by omega), ← hV, World.frozen?_alloc_old _ _ t (Nat.ne_of_lt tlt)]; exact hf)
  have hv1 : ErV V ats k v := hv.below (by rw [← hV]; exact (Below.refl _ _).alloc (Nat.le_refl _) _)
  have HV := Lib.hid hv1
  rw [hVz] at st
  clear hVz hv hv1
  subst hV
  have hb := (Below.refl w.heap.size w).alloc (Nat.le_refl _) (.cells #[.pointer (some ⟨2, 73, none⟩), .pointer (some a), .int .u64 150] 99)
  go_enter Tryd.func51, Tryd.ntmps51
  go_wp2
  go_loopg [0] ats.length (fun n u wr => wr = w.alloc (.cells #[.pointer (some ⟨2, 73, none⟩), .pointer (some a), .int .u64 150] 99) ∧ ∃ ps, ps.length = n ∧ Hid (ErV (w.alloc (.cells #[.pointer (some ⟨2, 73, none⟩), .pointer (some a), .int .u64 150] 99)) ps k u))
  case atStart => exact ⟨rfl, ats, rfl, HV⟩
  case round =>
    clear HV
    obtain ⟨rfl, ps, hn, hu⟩ := hrel
    have hu := hu.out
    rcases ps with _ | ⟨p, r⟩
    · have hu : _ = Value.iface 68 (.int .i64 k) := hu
      subst hu
      clear hn
      go_wp2
      go_ret
      exact ⟨rfl, _, hb.alloc (by simp) _, rfl⟩
    · obtain ⟨g, u, e, hc, hr⟩ := hu
      subst e
      have HR := Lib.hid hr
      have HN := Lib.hid hn
      clear hn
      rcases r with _ | ⟨p2, r2⟩
      · have hr : u = Value.iface 68 (.int .i64 k) := hr
        subst hr
        go_wp2_with (go_at_call 146; refine (Unwrap_any g p _ _ hc).mono ?_; rintro e w' ⟨rfl, rfl⟩)
        go_roundg 0
        case rel => exact ⟨rfl, [], rfl, HR⟩
        case measure => have := HN.out; simp at this; omega
      · obtain ⟨g2, u2, e2, hc2, hr2⟩ := hr
        subst e2
        go_wp2_with (go_at_call 146; refine (Unwrap_any g p _ _ hc).mono ?_; rintro e w' ⟨rfl, rfl⟩)
        go_roundg (r2.length + 1)
        case rel => exact ⟨rfl, p2 :: r2, rfl, HR⟩
        case measure => have := HN.out; simp at this; omega
set_option maxHeartbeats 4000000 in
set_option maxRecDepth 100000 in
theorem As_E (ats : List Int) (k : Int) (v : Value) (t : Addr) (old : Value) (w : World) (hE : Et w) (hv : ErV w ats k v) (ht : w.cell? t = some old) (hf : w.frozen? t = false) :
    Calls Tryd.prog 32 #[v, .iface 73 (.pointer (some t))] w fun e w' => e = .returned (.bool true) ∧ ∃ w1, Below w.heap.size w w1 ∧ w' = w1.setCell t (.int .i64 k) := by
  have x_vo := @run_callFunc_extern Tryd.prog 48 _ (fun args => ReflectliteValue.unpack (args.getD 0 (.tuple #[]))) Tryd.func48 (by kernel_rfl) (by kernel_rfl) (by kernel_rfl) (by kernel_rfl)
  have x_ty := @run_callFunc_extern Tryd.prog 49 _ (ReflectliteValue.methodAny (ReflectliteValue.valueError "reflectlite.Value.Type" 0) (fun t _ _ _ => ReflectliteType.toType t)) Tryd.func49 (by kernel_rfl) (by kernel_rfl) (by kernel_rfl) (by kernel_rfl)
  have x_nil := @run_callFunc_extern Tryd.prog 50 _ (ReflectliteValue.method (ReflectliteValue.valueError "reflectlite.Value.IsNil" 0) ReflectliteValue.isNil) Tryd.func50 (by kernel_rfl) (by kernel_rfl) (by kernel_rfl) (by kernel_rfl)
  have x_kind := @run_callFunc_extern Tryd.prog 125 _ (ReflectliteType.abiMethod fun t => do pure (.int .u8 (← Rtype.kind t))) Tryd.func125 (by kernel_rfl) (by kernel_rfl) (by kernel_rfl) (by kernel_rfl)
  have x_elem := @run_callFunc_extern Tryd.prog 137 _ (ReflectliteType.method ReflectliteType.elem) Tryd.func137 (by kernel_rfl) (by kernel_rfl) (by kernel_rfl) (by kernel_rfl)
  have x_impl := @run_callFunc_extern Tryd.prog 138 _ (ReflectliteType.relation "Implements" ReflectliteType.implements_) Tryd.func138 (by kernel_rfl) (by kernel_rfl) (by kernel_rfl) (by kernel_rfl)
  obtain ⟨T, x, ex⟩ := hv.form
  subst ex
  have m1 := mKind
  have m2 := mElem
  have m3 := mImpl
  have f1 := valueOfPE
  have f2 := typePE
  have f3 := kindPE
  have f4 := kindE
  have f5 := elemPE
  have f6 := implementsE
  have glt := hE.lt
  have tlt := block_of_cell ht
  obtain ⟨V1, hV1⟩ : ∃ V, w.alloc (.cells #[.pointer (some t)] 73) = V := ⟨_, rfl⟩
  have z1 : V1.heap.size = w.heap.size + 1 := by rw [← hV1]; simp
  obtain ⟨V2, hV2⟩ : ∃ V, V1.alloc (.cells #[.pointer (some ⟨2, 73, none⟩), .pointer (some ⟨w.heap.size, 0, none⟩), .int .u64 150] 99) = V := ⟨_, rfl⟩
  have c1 : V2.cell? ⟨w.heap.size, 0, none⟩ = some (.pointer (some t)) := by rw [← hV2, World.cell?_alloc_lt _ _ _ (by simp; omega), ← hV1, World.cell?_alloc_at _ _ _ _ rfl]; rfl
  have n8 := isNilPE ⟨w.heap.size, 0, none⟩ t V2 c1
  have b2 : Below w.heap.size w V2 := by rw [← hV2, ← hV1]; exact ((Below.refl _ _).alloc (Nat.le_refl _) _).alloc (by simp) _
  have hE2 : V2.cell? ⟨0, 0, none⟩ = some (.iface 131 (.agg #[hnd 29])) := hE.below b2
  have ht2 : V2.cell? t = some old := by rw [← hV2, World.cell?_alloc_lt _ _ t (by omega), ← hV1, World.cell?_alloc_lt _ _ t tlt]; exact ht
  have hf2 : V2.frozen? t = false := by rw [← hV2, World.frozen?_alloc_old _ _ t (by omega), ← hV1, World.frozen?_alloc_old _ _ t (Nat.ne_of_lt tlt)]; exact hf
  have ca := as_E ats k _ (.iface 73 (.pointer (some t))) ⟨w.heap.size, 0, none⟩ t old V2 (hv.below b2) c1 ht2 hf2
  have CA := Lib.hid ca
  have B2 := Lib.hid b2
  clear ca b2 z1 ht2 hf2
  unfold hnd at hE2 CA
  subst hV2
  subst hV1
  go_enter Tryd.func32, Tryd.ntmps32
  go_wp2_with (go_at_call 51; refine CA.out.mono ?_; rintro e w3 ⟨rfl, w4, hL4, rfl⟩)
  go_ret
  exact ⟨rfl, w4, below_mr B2.out hL4 (by simp; omega), rfl⟩
end Go.Proofs.YtbbfjlnkhenbiaaDoor
