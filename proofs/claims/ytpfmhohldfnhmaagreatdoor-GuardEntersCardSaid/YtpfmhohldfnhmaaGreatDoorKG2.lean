/- Two tags held against two others. -/
import Derived.Test.YtpfmhohldfnhmaaGreatDoorKB5
import Derived.Test.YtpfmhohldfnhmaaGreatDoorKG0
import Derived.Laws.StructEq
import Derived.Test.YtpfmhohldfnhmaaGreatDoorKR6
set_option linter.unusedVariables false
set_option linter.unusedSimpArgs false
namespace Lk
open Go Go.RowKit
theorem eqIn_bs {P : Program} (w : World) (d : Nat) {t e : TypeId} {n : Nat} (a b : List UInt8) (hu : P.underlying t = some (.array n e)) (he : P.underlying e = some (.int .u8)) (hc : P.cellsOf e = 1) (hi : (P.info? e).isSome = true) (ha : a.length = n) (hb : b.length = n) :
    (Op.equalIn (d + 2) t (.agg (Bs a)) (.agg (Bs b))).run P w = .ok (a == b) w := by
  obtain ⟨i, hi⟩ := Option.isSome_iff_exists.1 hi
  have h := run_equalIn_array (P := P) w (d + 1) (Bs a) (Bs b) hu hi
  rw [run_eqItems_bs w d he hc a b (List.range n) (fun j hj => by have := List.mem_range.1 hj; omega)] at h
  have e : ((List.range n).all fun i => g8 a i == g8 b i) = (a == b) := by
    rw [Bool.eq_iff_iff, List.all_eq_true, beq_iff_eq]
    constructor
    · intro h
      exact same_ext (by omega) (fun i hi => by simpa using h i (List.mem_range.2 (by omega)))
    · intro h i hi; rw [h]; simp
  rw [e] at h
  exact h
theorem eqItems_step {P : Program} (w : World) (d : Nat) (e : TypeId) (c : Nat) (X Y : Array Value) (i : Nat) (is : List Nat) (x y : Value) (b : Bool) (hx : (part e X (i * c)).run P w = .ok x w) (hy : (part e Y (i * c)).run P w = .ok y w) (hq : (Op.equalIn d e x y).run P w = .ok b w) :
    (Op.eqItems d e c X Y (i :: is)).run P w = if b then (Op.eqItems d e c X Y is).run P w else .ok false w := by
  simp only [Op.eqItems, Sem.run_bind, hx, hy, hq, Result.andThen_ok]
  cases b <;> simp [Sem.run_pure]
theorem eqItems_nil {P : Program} (w : World) (d : Nat) (e : TypeId) (c : Nat) (X Y : Array Value) : (Op.eqItems d e c X Y []).run P w = .ok true w := by simp [Op.eqItems]
/-- two tags as the model holds them -/
def tgs (t0 t1 : List UInt8) : Array Value := (Bl t0 ++ Bl t1).toArray
theorem ga_tags (k t0 t1 : List UInt8) (a b : Bool) (m n : Int) (hk : k.length = 16) (h0 : t0.length = 16) (h1 : t1.length = 16) : ((gcs k t0 t1 a b m n).drop 16).take 32 = Bl t0 ++ Bl t1 := by
  unfold gcs
  rw [List.drop_left' (by rw [Bl_len, hk]), ← List.append_assoc, List.take_left' (by rw [List.length_append, Bl_len, Bl_len, h0, h1])]
end Lk
namespace Go.Proofs.YtpfmhohldfnhmaaGreatDoor
open Go.RowKit Lk
def t16 : Nat := 53
theorem hu_t16 : Tryz.prog.underlying t16 = some (.array 16 u8t) := by kernel_rfl
theorem part_tag (w : World) (A B : List Value) (t : List UInt8) (o : Nat) (ho : o = A.length) (ht : t.length = 16) : (part t16 ((A ++ (Bl t ++ B)).toArray) o).run Tryz.prog w = .ok (.agg (Bs t)) w := by
  subst ho
  have hs : (sizeOf t16 : Sem Nat).run Tryz.prog w = .ok 16 w := by kernel_rfl
  simp [part, isAgg, run_underlying hu_t16, hs]
  apply Array.ext'
  simp [Bs, Bl, ht]
theorem eqIn_tags (w : World) (d : Nat) (t0 t1 s0 s1 : List UInt8) (h0 : t0.length = 16) (h1 : t1.length = 16) (g0 : s0.length = 16) (g1 : s1.length = 16) :
    (Op.equalIn (d + 3) 70 (.agg (tgs t0 t1)) (.agg (tgs s0 s1))).run Tryz.prog w = .ok (t0 == s0 && t1 == s1) w := by
  have hu : Tryz.prog.underlying 70 = some (.array 2 t16) := by kernel_rfl
  have hii : (Tryz.prog.info? t16).isSome = true := by kernel_rfl
  obtain ⟨i, hi⟩ := Option.isSome_iff_exists.1 hii
  have h := run_equalIn_array (P := Tryz.prog) w (d + 2) (tgs t0 t1) (tgs s0 s1) hu hi
  rw [h]
  have hc : Tryz.prog.cellsOf t16 = 16 := by kernel_rfl
  have p0 : ∀ a b : List UInt8, a.length = 16 → (part t16 (tgs a b) 0).run Tryz.prog w = .ok (.agg (Bs a)) w := fun a b ha => part_tag w [] (Bl b) a 0 rfl ha
  have p1 : ∀ a b : List UInt8, a.length = 16 → b.length = 16 → (part t16 (tgs a b) 16).run Tryz.prog w = .ok (.agg (Bs b)) w := fun a b ha hb => by
    have := part_tag w (Bl a) [] b 16 (by rw [Bl_len, ha]) hb
    rw [List.append_nil] at this
    exact this
  have q : ∀ a b : List UInt8, a.length = 16 → b.length = 16 → (Op.equalIn (d + 2) t16 (.agg (Bs a)) (.agg (Bs b))).run Tryz.prog w = .ok (a == b) w := fun a b ha hb => eqIn_bs w d a b hu_t16 (by kernel_rfl) (by kernel_rfl) (by kernel_rfl) ha hb
  rw [show List.range 2 = [0, 1] from rfl, hc]
  clear h hi hc hu
  rw [eqItems_step w (d + 2) t16 16 (tgs t0 t1) (tgs s0 s1) 0 [1] _ _ _ (p0 t0 t1 h0) (p0 s0 s1 g0) (q t0 s0 h0 g0)]
  rw [eqItems_step w (d + 2) t16 16 (tgs t0 t1) (tgs s0 s1) 1 [] _ _ _ (p1 t0 t1 h0 h1) (p1 s0 s1 g0 g1) (q t1 s1 h1 g1), eqItems_nil]
  cases t0 == s0 <;> cases t1 == s1 <;> rfl
theorem eql_tags (w : World) (t0 t1 s0 s1 : List UInt8) (h0 : t0.length = 16) (h1 : t1.length = 16) (g0 : s0.length = 16) (g1 : s1.length = 16) :
    (binOp .eql 70 (.agg (tgs t0 t1)) (.agg (tgs s0 s1))).run Tryz.prog w = .ok (.bool (t0 == s0 && t1 == s1)) w := by
  have h : (Op.equalIn 10000 70 (.agg (tgs t0 t1)) (.agg (tgs s0 s1))).run Tryz.prog w = .ok (t0 == s0 && t1 == s1) w := eqIn_tags w 9997 t0 t1 s0 s1 h0 h1 g0 g1
  simp [binOp, Op.equal, Op.maxDepth, h]
end Go.Proofs.YtpfmhohldfnhmaaGreatDoor
set_option linter.unusedVariables false
set_option linter.unusedSimpArgs false
namespace Lk
open Go Go.RowKit
theorem eqFields_step {P : Program} (w : World) (d : Nat) (X Y : Array Value) (f : Field) (fs : List Field) (x y : Value) (b : Bool) (hn : f.name ≠ "_") (hx : (part f.type X f.offset).run P w = .ok x w) (hy : (part f.type Y f.offset).run P w = .ok y w) (hq : (Op.equalIn d f.type x y).run P w = .ok b w) :
    (Op.eqFields d X Y (f :: fs)).run P w = if b then (Op.eqFields d X Y fs).run P w else .ok false w := by
  simp only [Op.eqFields, hn, ne_eq, not_false_eq_true, if_true, Sem.run_bind, hx, hy, hq, Result.andThen_ok]
  cases b <;> simp [Sem.run_pure]
theorem eqFields_nil {P : Program} (w : World) (d : Nat) (X Y : Array Value) : (Op.eqFields d X Y []).run P w = .ok true w := by simp [Op.eqFields, Sem.run_pure]
end Lk
namespace Go.Proofs.YtpfmhohldfnhmaaGreatDoor
open Go.RowKit Lk
theorem gdt_fields : (Tryz.prog.fieldsOf gdt).toList.map (fun f => (f.type, f.offset, f.name != "_")) = [(53, 0, true), (70, 16, true), (71, 48, true), (72, 50, true)] := by kernel_rfl
theorem gdt_struct : Tryz.prog.underlying gdt = some (.struct (Tryz.prog.fieldsOf gdt)) := by kernel_rfl
theorem eqIn_zero (w : World) (d : Nat) : (Op.equalIn (d + 5) gdt (.agg (ga zg zg zg false false 0 0)) (.agg (ga zg zg zg false false 0 0))).run Tryz.prog w = .ok true w := by kernel_rfl
theorem eql_zero (w : World) : (binOp .eql gdt (.agg (ga zg zg zg false false 0 0)) (.agg (ga zg zg zg false false 0 0))).run Tryz.prog w = .ok (.bool true) w := by
  have h : (Op.equalIn 10000 gdt (.agg (ga zg zg zg false false 0 0)) (.agg (ga zg zg zg false false 0 0))).run Tryz.prog w = .ok true w := eqIn_zero w 9995
  simp [binOp, Op.equal, Op.maxDepth, h]
theorem gdt_held : Tryz.prog.stoodInHeld gdt = false := by kernel_rfl
end Go.Proofs.YtpfmhohldfnhmaaGreatDoor
set_option linter.unusedVariables false
set_option linter.unusedSimpArgs false
namespace Lk
open Go Go.RowKit
section
variable {P : Program} {ops : Array Oper} {rest : List Oper} {o : Oper} {a : Act} {w : World} {Q : Exit → Act → World → Prop}
theorem op_build0 (hgd : o.guard = none) (ty : TypeId) (ho : o.op = .build ty #[]) (v : Value) (hr : ∀ w, (Instr.build ty #[]).run P w = .ok v w)
    (h : wpList P ops Q rest (a.put o.dst v) w) : wpList P ops Q (o :: rest) a w :=
  wpList_plain hgd fun _ hK => by
    unfold Oper.wp execOp
    simp only [ho, Sem.run_bind]
    have e : (#[] : Array (Nat × Operand)).map (fun (i, y) => (i, a.eval y)) = #[] := by simp
    rw [e, hr]
    exact hK _ _ h
end
end Lk
namespace Go.Proofs.YtpfmhohldfnhmaaGreatDoor
open Go Go.RowKit Lk
set_option maxHeartbeats 6400000 in
set_option maxRecDepth 100000 in
theorem GNew_bad0 (k : List UInt8) (c0 c1 : ByteArray) (w : World) (hk : k.length = 16) (hcs : c0.size ≤ 1000) (hb : c0.size < 4 ∨ 16 < c0.size) :
    Calls Tryz.prog 46 #[.agg (Bs k), .string c0, .string c1] w fun e w' => ∃ v, e = .returned (.tuple #[.agg (ga zg zg zg false false 0 0), v]) ∧ ErV w' [0] 2 v ∧ Below w.heap.size w w' := by
  obtain ⟨N, hN⟩ : ∃ N, w.heap.size = N := ⟨_, rfl⟩
  have HN := Lib.hid hN
  have HK := Lib.hid hk
  have HB := Lib.hid (fun w => build_guard k hk w)
  have T0 := Lib.hid (fun (w1 : World) => tag_no k 0 c0 w1 hk (by omega) hb)
  have HZ := Lib.hid (show zg.length = 16 from zg_len)
  clear hk hN hcs hb
  go_enter Tryz.func46, Tryz.ntmps46
  go_wp2_with (first
    | ((with_reducible show wpList _ _ _ _ _ w); refine box_blk (w := w) rfl 53 _ rfl k rfl ?_; intro w0 hK0 hG0 hz0; rw [HN.out] at hK0 hz0 ⊢)
    | ((with_reducible show wpList _ _ _ _ _ w0); refine alloc_row (w := w0) rfl gdt rfl (.agg (ga zg zg zg false false 0 0)) 52 (fun _ => by kernel_rfl) (by kernel_rfl) ?_; intro w1 hR1 _ hG1 hz1; rw [hz0] at hR1 hz1 ⊢; have hK1 := hK0.old hG1 (by simp); have hM1 : Below N w w1 := (below_none (below_none (Below.refl _ _) (by rw [HN.out]; omega) hG0) (by omega) hG1); clear hK0 hG0 hG1)
    | ((with_reducible show wpList _ _ _ _ _ w1); refine load_blk (w := w1) rfl 53 _ rfl N 53 16 5 k (by rfl) hK1 HK.out (by kernel_rfl) (by kernel_rfl) ?_)
    | ((with_reducible show wpList _ _ _ _ _ w1); refine op_build1 (w := w1) rfl gdt _ rfl _ (.agg (Bs k)) (by rfl) HB.out ?_)
    | ((with_reducible show wpList _ _ _ _ _ w1); refine alloc_row (w := w1) rfl gdt rfl (.agg (ga zg zg zg false false 0 0)) 52 (fun _ => by kernel_rfl) (by kernel_rfl) ?_; intro w2 hR2 _ hG2 hz2; rw [hz1] at hR2 hz2 ⊢; have hK2 := hK1.old hG2 (by simp); have hS2 := hR1.old hG2 (by simp); have hM2 : Below N w w2 := (below_none hM1 (by omega) hG2); clear hK1 hR1 hG2)
    | ((with_reducible show wpList _ _ _ _ _ w2); refine store_vr (w := w2) rfl gdt _ _ rfl (N + 1 + 1) gdt 52 (gcs k zg zg false false 0 0) (by rfl) (by rfl) hR2 (gcs_one _ _ _ _ _ _ _) (gcs_len _ _ _ _ _ _ _ HK.out HZ.out HZ.out) gdt_i ?_; intro w3 hA3 hG3 hz3; rw [hz2] at hz3; have hK3 := hK2.old hG3 (by simp; omega); have hS3 := hS2.old hG3 (by simp); have hM3 : Below N w w3 := (below_new hM2 (by omega) hG3 (by omega)); clear hK2 hS2 hR2 hG3))
  have hVw4 : VB (w3.alloc (.cells #[.string c0, .string c1] 9)) (N + 1 + 1 + 1) 9 [.string c0, .string c1] := by rw [← hz3]; exact heap_alloc_new w3 _
  have hAw4 : GB (w3.alloc (.cells #[.string c0, .string c1] 9)) (N + 1 + 1) gdt k zg zg false false 0 0 := VB.alloc hA3 _
  have hKw4 := hK3.alloc (.cells #[.string c0, .string c1] 9)
  have hSw4 : Row (w3.alloc (.cells #[.string c0, .string c1] 9)) (N + 1) gdt 52 := hS3.old (grown_alloc (grown_refl _ none) _) (by simp)
  have hMw4 : Below N w (w3.alloc (.cells #[.string c0, .string c1] 9)) := below_alloc hM3 (by omega) _
  have hzw4 : N + 1 + 1 + 1 + 1 ≤ (w3.alloc (.cells #[.string c0, .string c1] 9)).heap.size := by show _ ≤ (w3.heap.push _).size; simp; omega
  generalize w3.alloc (.cells #[.string c0, .string c1] 9) = w4 at hVw4 hAw4 hKw4 hSw4 hMw4 hzw4 ⊢
  clear hA3 hK3 hS3 hM3 hz3
  refine wp_loop_rounds 3 ?_
  have csw4 := hVw4.cell 0 _ rfl
  rw [rounds_succ]
  go_wp2_with (first
    | ((with_reducible show wpList _ _ _ _ _ w4); refine load_blk (w := w4) rfl 53 _ rfl N 53 16 5 k (by rfl) hKw4 HK.out (by kernel_rfl) (by kernel_rfl) ?_)
    | (go_at_call 77; refine (T0.out w4).mono ?_; rintro e w5 ⟨rfl, hL⟩; have hAw5 := hAw4.below hL (by omega); have hKw5 := hKw4.below hL (by omega); have hSw5 := hSw4.below hL (by omega); have hVw5 := hVw4.below hL (by omega); have hMw5 := below_more hMw4 hL (by omega); have hzw5 := hL.size; obtain ⟨G0, eG0⟩ : ∃ g, w5.heap.size = g := ⟨_, rfl⟩; clear hL hAw4 hKw4 hSw4 hVw4 hMw4 csw4)
    | ((with_reducible show wpList _ _ _ _ _ w5); refine alloc_row (w := w5) rfl 53 rfl (.agg (Bs (List.replicate 16 0))) 16 (fun _ => by kernel_rfl) rfl ?_; intro w6 hRw6 _ hG hzw6; have hAw6 := hAw5.old hG (by simp); have hKw6 := hKw5.old hG (by simp); have hSw6 := hSw5.old hG (by simp); have hVw6 := hVw5.old hG (by simp); have hMw6 : Below N w w6 := (below_none hMw5 (by omega) hG); rw [eG0] at hRw6 hzw6 hzw5 ⊢; clear hG hAw5 hKw5 hSw5 hVw5 hMw5)
    | ((with_reducible show wpList _ _ _ _ _ w6); refine store_blk (w := w6) rfl 53 _ _ rfl G0 53 16 (List.replicate 16 0) (by rfl) (by rfl) hRw6 rfl (by kernel_rfl) ?_; intro w7 hBw7 hG hzw7; have hAw7 := hAw6.old hG (by simp; omega); have hKw7 := hKw6.old hG (by simp; omega); have hSw7 := hSw6.old hG (by simp; omega); have hVw7 := hVw6.old hG (by simp; omega); have hMw7 : Below N w w7 := (below_new hMw6 (by omega) hG (by omega)); clear hG hAw6 hKw6 hSw6 hVw6 hMw6 hRw6)
    | ((with_reducible show wpList _ _ _ _ _ w7); refine op_build0 (w := w7) rfl gdt rfl (.agg (ga zg zg zg false false 0 0)) build_guard0 ?_)
    | ((with_reducible show wpList _ _ _ _ _ (World.alloc w7 _)); refine store_vr (w := World.alloc w7 (.cells #[.int .i64 0, .iface 107 (.int .i64 2)] 116)) rfl gdt _ _ rfl (N + 1) gdt 52 (gcs zg zg zg false false 0 0) (by rfl) (by rfl) (hSw7.old (grown_alloc (grown_refl _ none) _) (by simp)) (gcs_one _ _ _ _ _ _ _) (gcs_len _ _ _ _ _ _ _ HZ.out HZ.out HZ.out) gdt_i ?_; intro w99 hB99 hG99 hz99))
  have hF : (World.alloc w7 (.cells #[.int .i64 0, .iface 107 (.int .i64 2)] 116)).heap[w7.heap.size]? = some (.cells #[.int .i64 0, .iface 107 (.int .i64 2)] 116 (0, 0)) := heap_alloc_new _ _
  have hF2 := (hG99.block w7.heap.size (by simp) (by simp; omega)).trans hF
  have hzq : w7.heap.size = G0 + 1 := by omega
  have hM99 : Below N w w99 := below_new (below_alloc hMw7 (by omega) _) (by simp; omega) hG99 (by omega)
  refine bodyPost_ret (results_gd rfl _ _ (N + 1) gdt zg zg zg false false 0 0 rfl hB99 HZ.out HZ.out HZ.out) rfl ⟨_, rfl, ⟨G0 + 1, _, rfl, by rw [← hzq]; exact hF2, rfl⟩, ?_⟩
  rw [HN.out]
  exact hM99
set_option maxHeartbeats 6400000 in
set_option maxRecDepth 100000 in
theorem GNew_bad1 (k : List UInt8) (c0 c1 : ByteArray) (w : World) (hk : k.length = 16) (h01 : 4 ≤ c0.size) (h02 : c0.size ≤ 16) (hcs : c1.size ≤ 1000) (hb : c1.size < 4 ∨ 16 < c1.size) :
    Calls Tryz.prog 46 #[.agg (Bs k), .string c0, .string c1] w fun e w' => ∃ v, e = .returned (.tuple #[.agg (ga zg zg zg false false 0 0), v]) ∧ ErV w' [1] 2 v ∧ Below w.heap.size w w' := by
  obtain ⟨N, hN⟩ : ∃ N, w.heap.size = N := ⟨_, rfl⟩
  have HN := Lib.hid hN
  have HK := Lib.hid hk
  have HB := Lib.hid (fun w => build_guard k hk w)
  have T0 := Lib.hid (fun (w1 : World) => tag_yes k 0 0 c0 w1 (by decide) hk h01 h02)
  have T1 := Lib.hid (fun (w1 : World) => tag_no k 1 c1 w1 hk (by omega) hb)
  have L0 := Lib.hid (ptag_len k 0 c0)
  have HZ := Lib.hid (show zg.length = 16 from zg_len)
  clear hk hN h01 h02 hcs hb
  go_enter Tryz.func46, Tryz.ntmps46
  go_wp2_with (first
    | ((with_reducible show wpList _ _ _ _ _ w); refine box_blk (w := w) rfl 53 _ rfl k rfl ?_; intro w0 hK0 hG0 hz0; rw [HN.out] at hK0 hz0 ⊢)
    | ((with_reducible show wpList _ _ _ _ _ w0); refine alloc_row (w := w0) rfl gdt rfl (.agg (ga zg zg zg false false 0 0)) 52 (fun _ => by kernel_rfl) (by kernel_rfl) ?_; intro w1 hR1 _ hG1 hz1; rw [hz0] at hR1 hz1 ⊢; have hK1 := hK0.old hG1 (by simp); have hM1 : Below N w w1 := (below_none (below_none (Below.refl _ _) (by rw [HN.out]; omega) hG0) (by omega) hG1); clear hK0 hG0 hG1)
    | ((with_reducible show wpList _ _ _ _ _ w1); refine load_blk (w := w1) rfl 53 _ rfl N 53 16 5 k (by rfl) hK1 HK.out (by kernel_rfl) (by kernel_rfl) ?_)
    | ((with_reducible show wpList _ _ _ _ _ w1); refine op_build1 (w := w1) rfl gdt _ rfl _ (.agg (Bs k)) (by rfl) HB.out ?_)
    | ((with_reducible show wpList _ _ _ _ _ w1); refine alloc_row (w := w1) rfl gdt rfl (.agg (ga zg zg zg false false 0 0)) 52 (fun _ => by kernel_rfl) (by kernel_rfl) ?_; intro w2 hR2 _ hG2 hz2; rw [hz1] at hR2 hz2 ⊢; have hK2 := hK1.old hG2 (by simp); have hS2 := hR1.old hG2 (by simp); have hM2 : Below N w w2 := (below_none hM1 (by omega) hG2); clear hK1 hR1 hG2)
    | ((with_reducible show wpList _ _ _ _ _ w2); refine store_vr (w := w2) rfl gdt _ _ rfl (N + 1 + 1) gdt 52 (gcs k zg zg false false 0 0) (by rfl) (by rfl) hR2 (gcs_one _ _ _ _ _ _ _) (gcs_len _ _ _ _ _ _ _ HK.out HZ.out HZ.out) gdt_i ?_; intro w3 hA3 hG3 hz3; rw [hz2] at hz3; have hK3 := hK2.old hG3 (by simp; omega); have hS3 := hS2.old hG3 (by simp); have hM3 : Below N w w3 := (below_new hM2 (by omega) hG3 (by omega)); clear hK2 hS2 hR2 hG3))
  have hVw4 : VB (w3.alloc (.cells #[.string c0, .string c1] 9)) (N + 1 + 1 + 1) 9 [.string c0, .string c1] := by rw [← hz3]; exact heap_alloc_new w3 _
  have hAw4 : GB (w3.alloc (.cells #[.string c0, .string c1] 9)) (N + 1 + 1) gdt k zg zg false false 0 0 := VB.alloc hA3 _
  have hKw4 := hK3.alloc (.cells #[.string c0, .string c1] 9)
  have hSw4 : Row (w3.alloc (.cells #[.string c0, .string c1] 9)) (N + 1) gdt 52 := hS3.old (grown_alloc (grown_refl _ none) _) (by simp)
  have hMw4 : Below N w (w3.alloc (.cells #[.string c0, .string c1] 9)) := below_alloc hM3 (by omega) _
  have hzw4 : N + 1 + 1 + 1 + 1 ≤ (w3.alloc (.cells #[.string c0, .string c1] 9)).heap.size := by show _ ≤ (w3.heap.push _).size; simp; omega
  generalize w3.alloc (.cells #[.string c0, .string c1] 9) = w4 at hVw4 hAw4 hKw4 hSw4 hMw4 hzw4 ⊢
  clear hA3 hK3 hS3 hM3 hz3
  refine wp_loop_rounds 3 ?_
  have csw4 := hVw4.cell 0 _ rfl
  rw [rounds_succ]
  go_wp2_with (first
    | ((with_reducible show wpList _ _ _ _ _ w4); refine load_blk (w := w4) rfl 53 _ rfl N 53 16 5 k (by rfl) hKw4 HK.out (by kernel_rfl) (by kernel_rfl) ?_)
    | (go_at_call 77; refine (T0.out w4).mono ?_; rintro e w5 ⟨rfl, hL⟩; have hAw5 := hAw4.below hL (by omega); have hKw5 := hKw4.below hL (by omega); have hSw5 := hSw4.below hL (by omega); have hVw5 := hVw4.below hL (by omega); have hMw5 := below_more hMw4 hL (by omega); have hzw5 := hL.size; obtain ⟨G0, eG0⟩ : ∃ g, w5.heap.size = g := ⟨_, rfl⟩; clear hL hAw4 hKw4 hSw4 hVw4 hMw4 csw4)
    | ((with_reducible show wpList _ _ _ _ _ w5); refine alloc_row (w := w5) rfl 53 rfl (.agg (Bs (List.replicate 16 0))) 16 (fun _ => by kernel_rfl) rfl ?_; intro w6 hRw6 _ hG hzw6; have hAw6 := hAw5.old hG (by simp); have hKw6 := hKw5.old hG (by simp); have hSw6 := hSw5.old hG (by simp); have hVw6 := hVw5.old hG (by simp); have hMw6 : Below N w w6 := (below_none hMw5 (by omega) hG); rw [eG0] at hRw6 hzw6 hzw5 ⊢; clear hG hAw5 hKw5 hSw5 hVw5 hMw5)
    | ((with_reducible show wpList _ _ _ _ _ w6); refine store_blk (w := w6) rfl 53 _ _ rfl G0 53 16 (ptag k 0 c0) (by rfl) (by rfl) hRw6 (ptag_len _ _ _) (by kernel_rfl) ?_; intro w7 hBw7 hG hzw7; have hAw7 := hAw6.old hG (by simp; omega); have hKw7 := hKw6.old hG (by simp; omega); have hSw7 := hSw6.old hG (by simp; omega); have hVw7 := hVw6.old hG (by simp; omega); have hMw7 : Below N w w7 := (below_new hMw6 (by omega) hG (by omega)); clear hG hAw6 hKw6 hSw6 hVw6 hMw6 hRw6)
    | ((with_reducible show wpList _ _ _ _ _ w7); refine load_blk (w := w7) rfl 53 _ rfl G0 53 16 5 (ptag k 0 c0) (by rfl) hBw7 (ptag_len _ _ _) (by kernel_rfl) (by kernel_rfl) ?_)
    | ((with_reducible show wpList _ _ _ _ _ w7); refine store_vb (w := w7) rfl 53 _ _ rfl (N + 1 + 1) 16 gdt 16 (gcs k zg zg false false 0 0) (Bl (ptag k 0 c0)) (by rfl) (by rfl) hAw7 (gcs_one _ _ _ _ _ _ _) (Bl_one _) (by rw [Bl_len, ptag_len]) (by rw [gcs_len _ _ _ _ _ _ _ HK.out HZ.out HZ.out]; decide) (by kernel_rfl) ?_; intro w8 hAw8 hG hzw8; rw [gcs_put0 _ _ _ _ _ _ _ _ HK.out HZ.out L0.out] at hAw8; have hKw8 := hKw7.old hG (by simp; omega); have hSw8 := hSw7.old hG (by simp); have hVw8 := hVw7.old hG (by simp); have hMw8 : Below N w w8 := (below_new hMw7 (by omega) hG (by omega)); have hz : N + 1 + 1 + 1 + 1 ≤ w8.heap.size := (by omega); clear hG hAw7 hKw7 hSw7 hVw7 hMw7 hBw7 hzw4 hzw5 hzw6 hzw7 eG0 hzw8; have hzw8 := hz; clear hz))
  have csw8 := hVw8.cell 1 _ rfl
  rw [rounds_succ]
  go_wp2_with (first
    | ((with_reducible show wpList _ _ _ _ _ w8); refine load_blk (w := w8) rfl 53 _ rfl N 53 16 5 k (by rfl) hKw8 HK.out (by kernel_rfl) (by kernel_rfl) ?_)
    | (go_at_call 77; refine (T1.out w8).mono ?_; rintro e w11 ⟨rfl, hL⟩; have hAw11 := hAw8.below hL (by omega); have hKw11 := hKw8.below hL (by omega); have hSw11 := hSw8.below hL (by omega); have hVw11 := hVw8.below hL (by omega); have hMw11 := below_more hMw8 hL (by omega); have hzw11 := hL.size; obtain ⟨G1, eG1⟩ : ∃ g, w11.heap.size = g := ⟨_, rfl⟩; clear hL hAw8 hKw8 hSw8 hVw8 hMw8 csw8)
    | ((with_reducible show wpList _ _ _ _ _ w11); refine alloc_row (w := w11) rfl 53 rfl (.agg (Bs (List.replicate 16 0))) 16 (fun _ => by kernel_rfl) rfl ?_; intro w12 hRw12 _ hG hzw12; have hAw12 := hAw11.old hG (by simp); have hKw12 := hKw11.old hG (by simp); have hSw12 := hSw11.old hG (by simp); have hVw12 := hVw11.old hG (by simp); have hMw12 : Below N w w12 := (below_none hMw11 (by omega) hG); rw [eG1] at hRw12 hzw12 hzw11 ⊢; clear hG hAw11 hKw11 hSw11 hVw11 hMw11)
    | ((with_reducible show wpList _ _ _ _ _ w12); refine store_blk (w := w12) rfl 53 _ _ rfl G1 53 16 (List.replicate 16 0) (by rfl) (by rfl) hRw12 rfl (by kernel_rfl) ?_; intro w13 hBw13 hG hzw13; have hAw13 := hAw12.old hG (by simp; omega); have hKw13 := hKw12.old hG (by simp; omega); have hSw13 := hSw12.old hG (by simp; omega); have hVw13 := hVw12.old hG (by simp; omega); have hMw13 : Below N w w13 := (below_new hMw12 (by omega) hG (by omega)); clear hG hAw12 hKw12 hSw12 hVw12 hMw12 hRw12)
    | ((with_reducible show wpList _ _ _ _ _ w13); refine op_build0 (w := w13) rfl gdt rfl (.agg (ga zg zg zg false false 0 0)) build_guard0 ?_)
    | ((with_reducible show wpList _ _ _ _ _ (World.alloc w13 _)); refine store_vr (w := World.alloc w13 (.cells #[.int .i64 1, .iface 107 (.int .i64 2)] 116)) rfl gdt _ _ rfl (N + 1) gdt 52 (gcs zg zg zg false false 0 0) (by rfl) (by rfl) (hSw13.old (grown_alloc (grown_refl _ none) _) (by simp)) (gcs_one _ _ _ _ _ _ _) (gcs_len _ _ _ _ _ _ _ HZ.out HZ.out HZ.out) gdt_i ?_; intro w99 hB99 hG99 hz99))
  have hF : (World.alloc w13 (.cells #[.int .i64 1, .iface 107 (.int .i64 2)] 116)).heap[w13.heap.size]? = some (.cells #[.int .i64 1, .iface 107 (.int .i64 2)] 116 (0, 0)) := heap_alloc_new _ _
  have hF2 := (hG99.block w13.heap.size (by simp) (by simp; omega)).trans hF
  have hzq : w13.heap.size = G1 + 1 := by omega
  have hM99 : Below N w w99 := below_new (below_alloc hMw13 (by omega) _) (by simp; omega) hG99 (by omega)
  refine bodyPost_ret (results_gd rfl _ _ (N + 1) gdt zg zg zg false false 0 0 rfl hB99 HZ.out HZ.out HZ.out) rfl ⟨_, rfl, ⟨G1 + 1, _, rfl, by rw [← hzq]; exact hF2, rfl⟩, ?_⟩
  rw [HN.out]
  exact hM99
end Go.Proofs.YtpfmhohldfnhmaaGreatDoor
set_option linter.unusedVariables false
set_option linter.unusedSimpArgs false
namespace Lk
open Go Go.RowKit
section
variable {P : Program} {ops : Array Oper} {o : Oper} {a : Act} {w : World}
theorem yields_eql {S : World → Prop} (hw : Region.wanted o (yielded ops a.tmps) = true) (t r : TypeId) (x y : Operand) (ho : o.op = .binOp .eql t x y r) (xs ys : Array Value) (hx : a.eval x = .agg xs) (hy : a.eval y = .agg ys) (hm : P.eqGuardType P.depth t = false) (b : Bool)
    (hr : ∀ w : World, (binOp .eql t (.agg xs) (.agg ys)).run P w = .ok (.bool b) w) : YieldsIf P ops S o (.bool b) a := .inl ⟨hw, fun w _ => by
    unfold execOp
    simp only [ho, hx, hy, Sem.run_bind, run_eqGuard_agg w .eql t x y xs ys hm, hr, Result.andThen_ok]
    rfl⟩
theorem yields_vb {S : World → Prop} (hw : Region.wanted o (yielded ops a.tmps) = true) (ty : TypeId) (x : Operand) (ho : o.op = .load ty x) (g k T m : Nat) (d : TypeDesc) (L l : List Value) (hx : a.eval x = .pointer (some ⟨g, k, none⟩)) (hB : ∀ w, S w → VB w g T L) (hl : (L.drop k).take m = l) (hlm : l.length = m)
    (hu : P.underlying ty = some d) (hd : d.isRow = true) (hi : (P.info? ty).map (·.size) = some m) : YieldsIf P ops S o (.agg l.toArray) a := .inl ⟨hw, fun w hS => by
    subst hl
    unfold execOp
    simp only [ho, hx, Instr.loadAt, Instr.sureAddr, Sem.run_bind, Sem.run_pure, Result.andThen_ok, run_loadVar_mid w g k ty _ d ((hB w hS).range k m) hu hd (by simpa [hlm] using hi)]⟩
variable {rest : List Oper} {Q : Exit → Act → World → Prop}
theorem op_build0g (hw : Region.wanted o (yielded ops a.tmps) = true) (ty : TypeId) (ho : o.op = .build ty #[]) (v : Value) (hr : ∀ w, (Instr.build ty #[]).run P w = .ok v w)
    (h : wpList P ops Q rest (a.put o.dst v) w) : wpList P ops Q (o :: rest) a w :=
  wpList_step fun K hK => by
    simp only [hw, if_true]
    unfold Oper.wp execOp
    simp only [ho, Sem.run_bind]
    have e : (#[] : Array (Nat × Operand)).map (fun (i, y) => (i, a.eval y)) = #[] := by simp
    rw [e, hr]
    exact hK _ _ h
theorem op_eqlg (hw : Region.wanted o (yielded ops a.tmps) = true) (t r : TypeId) (x y : Operand) (ho : o.op = .binOp .eql t x y r) (xs ys : Array Value) (hx : a.eval x = .agg xs) (hy : a.eval y = .agg ys) (hm : P.eqGuardType P.depth t = false) (b : Bool)
    (hr : ∀ w : World, (binOp .eql t (.agg xs) (.agg ys)).run P w = .ok (.bool b) w) (h : wpList P ops Q rest (a.put o.dst (.bool b)) w) : wpList P ops Q (o :: rest) a w :=
  wpList_step fun K hK => by
    simp only [hw, if_true]
    unfold Oper.wp execOp
    simp only [ho, hx, hy, Sem.run_bind, run_eqGuard_agg w .eql t x y xs ys hm, hr, Result.andThen_ok]
    exact hK _ _ h
end
end Lk
namespace Go.Proofs.YtpfmhohldfnhmaaGreatDoor
open Go Go.RowKit Lk
theorem right24_yes (s : ByteArray) (w : World) (h1 : 4 ≤ s.size) (h2 : s.size ≤ 16) : Calls Tryz.prog 44 #[.string s] w fun e w' => e = .returned (.bool true) ∧ w' = w := by
  have i1 : (4 : Int) ≤ (s.size : Int) := by omega
  have i2 : (s.size : Int) ≤ 16 := by omega
  clear h1 h2
  go_enter Tryz.func44, Tryz.ntmps44
  go_wp2
  go_ret
  exact ⟨rfl, rfl⟩
theorem right24_no (s : ByteArray) (w : World) (h : s.size < 4 ∨ 16 < s.size) : Calls Tryz.prog 44 #[.string s] w fun e w' => e = .returned (.bool false) ∧ w' = w := by
  by_cases h1 : s.size < 4
  · have i1 : ¬ (4 : Int) ≤ (s.size : Int) := by omega
    clear h h1
    go_enter Tryz.func44, Tryz.ntmps44
    go_wp2
    go_ret
    exact ⟨rfl, rfl⟩
  · have i1 : (4 : Int) ≤ (s.size : Int) := by omega
    have i2 : ¬ (s.size : Int) ≤ 16 := by omega
    clear h h1
    go_enter Tryz.func44, Tryz.ntmps44
    go_wp2
    go_ret
    exact ⟨rfl, rfl⟩
end Go.Proofs.YtpfmhohldfnhmaaGreatDoor
