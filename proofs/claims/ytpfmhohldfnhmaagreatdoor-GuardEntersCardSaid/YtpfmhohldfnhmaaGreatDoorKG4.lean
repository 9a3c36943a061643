/- Regions that draw, kept small: an operation behind a door (a let in the goal makes the end of a proof reckon the types of its parts), destinations told. -/
import Derived.Test.YtpfmhohldfnhmaaGreatDoorKG2
set_option linter.unusedVariables false
set_option linter.unusedSimpArgs false
namespace Go.Proofs.YtpfmhohldfnhmaaGreatDoor
open Go Go.RowKit Lk
section
variable {P : Program} {ops : Array Oper} {Q : Exit → Act → World → Prop} {md : Region.Mode} {S : World → Prop}
/-- wpOp behind a door that no one opens by chance (a let in the goal makes the end of a proof reckon the types of its parts). -/
structure OpH (P : Program) (ops : Array Oper) (Q : Exit → Act → World → Prop) (i : Nat) (K : Act → World → Prop) (a : Act) (w : World) : Prop where
  h : wpOp P ops Q i K a w
theorem wpAnyH_one (i : Nat) {fuel : Nat} {listed : Array Bool} {a : Act} {w : World} (hr : Region.ready md ops listed = [i])
    (h : OpH P ops Q i (fun a' w' => S w' ∧ wpAnyH P md ops Q S fuel (listed.setIfInBounds i true) a' w') a w) : wpAnyH P md ops Q S (fuel + 1) listed a w :=
  wpAnyH_all hr (by simp) (fun j hj => by rw [List.mem_singleton] at hj; rw [hj]; exact h.h)
theorem wpAnyH_taked {i : Nat} (d : Option Nat) {oi : Oper} {v : Value} {fuel : Nat} {listed : Array Bool} {a : Act} {w : World} (hi : ops[i]? = some oi) (hd : oi.dst = d)
    (hs : Region.noSelect ops = true) (hf : Region.free md ops listed i = true) (hr : (Region.ready md ops listed).contains i = true)
    (hQ : ∀ c a w, Q (.panic c) (a.put d v) w → Q (.panic c) a w) (hy : YieldsIf P ops S oi v a) (hS : S w)
    (h : wpAnyH P md ops Q S fuel (listed.setIfInBounds i true) (a.put d v) w) : wpAnyH P md ops Q S (fuel + 1) listed a w := by
  subst hd; exact wpAnyH_take hi hs hf hr hQ hy hS h
theorem wpOp_enterEd {K : Act → World → Prop} {i : Nat} {o : Oper} {a : Act} {w : World} (d : Option Nat) (hi : ops[i]? = some o) (hd : o.dst = d) (hw : Region.wanted o (yielded ops a.tmps) = true) (f : FuncId) (args : Array Value) (G : Value → World → Prop) (h : (execOp a.eval o).run P w = .ok (.enter f args) w)
    (hc : Calls P f args w fun e w' => ∃ v, e = .returned v ∧ G v w') (hk : ∀ v w', G v w' → K (a.put d v) w') : OpH P ops Q i K a w := by
  subst hd; exact ⟨wpOp_enterE hi hw f args G h hc hk⟩
end
section
variable {P : Program} {ops : Array Oper} {rest : List Oper} {o : Oper} {a : Act} {w : World} {Q : Exit → Act → World → Prop}
theorem op_neqh (hw : Region.wanted o (yielded ops a.tmps) = true) (t r : TypeId) (x y : Operand) (ho : o.op = .binOp .neq t x y r) (xs ys : Array Value) (hx : a.eval x = .agg xs) (hy : a.eval y = .agg ys) (hm : P.eqGuardType P.depth t = false) (b : Bool)
    (hr : ∀ w : World, (binOp .neq t (.agg xs) (.agg ys)).run P w = .ok (.bool b) w) (h : wpList P ops Q rest (a.put o.dst (.bool b)) w) : wpList P ops Q (o :: rest) a w :=
  wpList_step fun K hK => by
    simp only [hw, if_true]
    unfold Oper.wp execOp
    simp only [ho, hx, hy, Sem.run_bind, run_eqGuard_agg w .neq t x y xs ys hm, hr, Result.andThen_ok]
    exact hK _ _ h
end
end Go.Proofs.YtpfmhohldfnhmaaGreatDoor
set_option linter.unusedVariables false
set_option linter.unusedSimpArgs false
namespace Go.Proofs.YtpfmhohldfnhmaaGreatDoor
open Go Go.RowKit Lk
theorem part_gen {P : Program} (w : World) {ty e : TypeId} {n m : Nat} (hu : P.underlying ty = some (.array n e)) (hs : (sizeOf ty : Sem Nat).run P w = .ok m w) (A X B : List Value) (o : Nat) (ho : o = A.length) (hX : X.length = m) :
    (part ty ((A ++ (X ++ B)).toArray) o).run P w = .ok (.agg X.toArray) w := by
  subst ho
  simp [part, isAgg, run_underlying hu, hs]
  simp [hX]
theorem eqIn_bools (w : World) (d : Nat) (a b : Bool) : (Op.equalIn (d + 5) 71 (.agg #[.bool a, .bool b]) (.agg #[.bool a, .bool b])).run Tryz.prog w = .ok true w := by
  cases a <;> cases b <;> kernel_rfl
theorem eqIn_ints (w : World) (d : Nat) (m n : Int) : (Op.equalIn (d + 2) 72 (.agg #[.int .i64 m, .int .i64 n]) (.agg #[.int .i64 m, .int .i64 n])).run Tryz.prog w = .ok true w := by
  have hu : Tryz.prog.underlying 72 = some (.array 2 3) := by kernel_rfl
  have hi' : Tryz.prog.underlying 3 = some (.int .i64) := by kernel_rfl
  have hii : (Tryz.prog.info? 3).isSome = true := by kernel_rfl
  obtain ⟨i, hi⟩ := Option.isSome_iff_exists.1 hii
  have hc : Tryz.prog.cellsOf 3 = 1 := by kernel_rfl
  have h := run_equalIn_array (P := Tryz.prog) w (d + 1) #[.int .i64 m, .int .i64 n] #[.int .i64 m, .int .i64 n] hu hi
  rw [h, show List.range 2 = [0, 1] from rfl, hc]
  have p0 : (part 3 #[.int .i64 m, .int .i64 n] (0 * 1)).run Tryz.prog w = .ok (.int .i64 m) w := by kernel_rfl
  have p1 : (part 3 #[.int .i64 m, .int .i64 n] (1 * 1)).run Tryz.prog w = .ok (.int .i64 n) w := by kernel_rfl
  rw [eqItems_step w (d + 1) _ 1 _ _ 0 [1] _ _ _ p0 p0 (run_equalIn_int w d _ .i64 .i64 m m hi'), beq_self_eq_true, if_pos rfl]
  rw [eqItems_step w (d + 1) _ 1 _ _ 1 [] _ _ _ p1 p1 (run_equalIn_int w d _ .i64 .i64 n n hi'), beq_self_eq_true, if_pos rfl, eqItems_nil]
theorem list4 {α β : Type} (L : List α) (g : α → β) {x y z u : β} (h : L.map g = [x, y, z, u]) : ∃ a b c d, L = [a, b, c, d] ∧ g a = x ∧ g b = y ∧ g c = z ∧ g d = u := by
  obtain ⟨a, l1, rfl, ha, h⟩ := List.map_eq_cons_iff.1 h
  obtain ⟨b, l2, rfl, hb, h⟩ := List.map_eq_cons_iff.1 h
  obtain ⟨c, l3, rfl, hc, h⟩ := List.map_eq_cons_iff.1 h
  obtain ⟨d, l4, rfl, hd, h⟩ := List.map_eq_cons_iff.1 h
  rw [List.map_eq_nil_iff] at h
  subst h
  exact ⟨a, b, c, d, rfl, ha, hb, hc, hd⟩
theorem ga_list (k t0 t1 : List UInt8) (a b : Bool) (m n : Int) : ga k t0 t1 a b m n = (gcs k t0 t1 a b m n).toArray := rfl
set_option maxRecDepth 100000 in
theorem eqIn_ga (w : World) (d : Nat) (k t0 t1 : List UInt8) (a b : Bool) (m n : Int) (hk : k.length = 16) (h0 : t0.length = 16) (h1 : t1.length = 16) :
    (Op.equalIn (d + 6) gdt (.agg (ga k t0 t1 a b m n)) (.agg (ga k t0 t1 a b m n))).run Tryz.prog w = .ok true w := by
  rw [run_equalIn_struct w (d + 5) gdt _ _ gdt_struct gdt_held]
  obtain ⟨f1, f2, f3, f4, hL, g1, g2, g3, g4⟩ := list4 _ _ gdt_fields
  rw [hL]
  clear hL
  simp only [Prod.mk.injEq, bne_iff_ne] at g1 g2 g3 g4
  obtain ⟨a1, b1, c1⟩ := g1
  obtain ⟨a2, b2, c2⟩ := g2
  obtain ⟨a3, b3, c3⟩ := g3
  obtain ⟨a4, b4, c4⟩ := g4
  have e2 : gcs k t0 t1 a b m n = Bl k ++ ((Bl t0 ++ Bl t1) ++ [.bool a, .bool b, .int .i64 m, .int .i64 n]) := by unfold gcs; simp
  have q1 : (part f1.type (ga k t0 t1 a b m n) f1.offset).run Tryz.prog w = .ok (.agg (Bs k)) w := by
    rw [a1, b1]
    have h := part_gen (P := Tryz.prog) w (ty := 53) (e := 5) (n := 16) (m := 16) (by kernel_rfl) (by kernel_rfl) [] (Bl k) (Bl t0 ++ (Bl t1 ++ [.bool a, .bool b, .int .i64 m, .int .i64 n])) 0 rfl (by rw [Bl_len, hk])
    rw [List.nil_append] at h
    exact h
  have q2 : (part f2.type (ga k t0 t1 a b m n) f2.offset).run Tryz.prog w = .ok (.agg (tgs t0 t1)) w := by
    rw [a2, b2, ga_list, e2]
    exact part_gen (P := Tryz.prog) w (ty := 70) (e := 53) (n := 2) (m := 32) (by kernel_rfl) (by kernel_rfl) (Bl k) (Bl t0 ++ Bl t1) [.bool a, .bool b, .int .i64 m, .int .i64 n] 16 (by rw [Bl_len, hk]) (by rw [List.length_append, Bl_len, Bl_len, h0, h1])
  have e3 : gcs k t0 t1 a b m n = (Bl k ++ (Bl t0 ++ Bl t1)) ++ ([.bool a, .bool b] ++ [.int .i64 m, .int .i64 n]) := by unfold gcs; simp
  have q3 : (part f3.type (ga k t0 t1 a b m n) f3.offset).run Tryz.prog w = .ok (.agg #[.bool a, .bool b]) w := by
    rw [a3, b3, ga_list, e3]
    exact part_gen (P := Tryz.prog) w (ty := 71) (e := 4) (n := 2) (m := 2) (by kernel_rfl) (by kernel_rfl) _ _ _ 48 (by rw [List.length_append, List.length_append, Bl_len, Bl_len, Bl_len, hk, h0, h1]) rfl
  have e4 : gcs k t0 t1 a b m n = (Bl k ++ (Bl t0 ++ (Bl t1 ++ [.bool a, .bool b]))) ++ ([.int .i64 m, .int .i64 n] ++ []) := by unfold gcs; simp
  have q4 : (part f4.type (ga k t0 t1 a b m n) f4.offset).run Tryz.prog w = .ok (.agg #[.int .i64 m, .int .i64 n]) w := by
    rw [a4, b4, ga_list, e4]
    exact part_gen (P := Tryz.prog) w (ty := 72) (e := 3) (n := 2) (m := 2) (by kernel_rfl) (by kernel_rfl) _ _ _ 50 (by rw [List.length_append, List.length_append, List.length_append, Bl_len, Bl_len, Bl_len, hk, h0, h1]; rfl) rfl
  have r1 : (Op.equalIn (d + 5) f1.type (.agg (Bs k)) (.agg (Bs k))).run Tryz.prog w = .ok true w := by
    rw [a1]; exact (eqIn_bs w (d + 3) k k hu_t16 (by kernel_rfl) (by kernel_rfl) (by kernel_rfl) hk hk).trans (by rw [beq_self_eq_true])
  have r2 : (Op.equalIn (d + 5) f2.type (.agg (tgs t0 t1)) (.agg (tgs t0 t1))).run Tryz.prog w = .ok true w := by
    rw [a2]; exact (eqIn_tags w (d + 2) t0 t1 t0 t1 h0 h1 h0 h1).trans (by rw [beq_self_eq_true, beq_self_eq_true]; rfl)
  have r3 : (Op.equalIn (d + 5) f3.type (.agg #[.bool a, .bool b]) (.agg #[.bool a, .bool b])).run Tryz.prog w = .ok true w := by
    rw [a3]; exact eqIn_bools w d a b
  have r4 : (Op.equalIn (d + 5) f4.type (.agg #[.int .i64 m, .int .i64 n]) (.agg #[.int .i64 m, .int .i64 n])).run Tryz.prog w = .ok true w := by
    rw [a4]; exact eqIn_ints w (d + 3) m n
  clear a1 b1 a2 b2 a3 b3 a4 b4 e2 e3 e4
  rw [eqFields_step w _ _ _ f1 _ _ _ _ c1 q1 q1 r1, if_pos rfl, eqFields_step w _ _ _ f2 _ _ _ _ c2 q2 q2 r2, if_pos rfl, eqFields_step w _ _ _ f3 _ _ _ _ c3 q3 q3 r3, if_pos rfl, eqFields_step w _ _ _ f4 _ _ _ _ c4 q4 q4 r4, if_pos rfl, eqFields_nil]
theorem eql_ga (w : World) (k t0 t1 : List UInt8) (a b : Bool) (m n : Int) (hk : k.length = 16) (h0 : t0.length = 16) (h1 : t1.length = 16) :
    (binOp .eql gdt (.agg (ga k t0 t1 a b m n)) (.agg (ga k t0 t1 a b m n))).run Tryz.prog w = .ok (.bool true) w := by
  have h : (Op.equalIn 10000 gdt (.agg (ga k t0 t1 a b m n)) (.agg (ga k t0 t1 a b m n))).run Tryz.prog w = .ok true w := eqIn_ga w 9994 k t0 t1 a b m n hk h0 h1
  simp [binOp, Op.equal, Op.maxDepth, h]
theorem neq_ga (w : World) (k t0 t1 : List UInt8) (a b : Bool) (m n : Int) (hk : k.length = 16) (h0 : t0.length = 16) (h1 : t1.length = 16) :
    (binOp .neq gdt (.agg (ga k t0 t1 a b m n)) (.agg (ga k t0 t1 a b m n))).run Tryz.prog w = .ok (.bool false) w := by
  have h : (Op.equalIn 10000 gdt (.agg (ga k t0 t1 a b m n)) (.agg (ga k t0 t1 a b m n))).run Tryz.prog w = .ok true w := eqIn_ga w 9994 k t0 t1 a b m n hk h0 h1
  simp [binOp, Op.equal, Op.maxDepth, h]
end Go.Proofs.YtpfmhohldfnhmaaGreatDoor
