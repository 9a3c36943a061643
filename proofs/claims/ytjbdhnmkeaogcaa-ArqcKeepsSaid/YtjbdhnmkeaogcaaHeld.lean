/- A region that leaves its order open and makes memory: operations taken first, and what does not yield in all worlds, one at a time. -/
import Derived.Test.YtjbdhnmkeaogcaaBlkD
import Derived.OrdersHeld
set_option linter.unusedVariables false
set_option linter.unusedSimpArgs false
namespace Lk
open Go Go.RowKit
section
variable {P : Program} {ops : Array Oper} {Q : Exit → Act → World → Prop} {K : Act → World → Prop} {i : Nat} {o : Oper} {a : Act} {w : World}
theorem wpOp_enter (hi : ops[i]? = some o) (hw : Region.wanted o (yielded ops a.tmps) = true) (f : FuncId) (args : Array Value) (v : Value) (G : World → Prop) (h : (execOp a.eval o).run P w = .ok (.enter f args) w)
    (hc : Calls P f args w fun e w' => e = .returned v ∧ G w') (hk : ∀ w', G w' → K (a.put o.dst v) w') : wpOp P ops Q i K a w := by
  unfold Go.wpOp
  simp only [hi, hw, if_true]
  refine .inl ?_
  unfold Oper.wp
  rw [h]
  refine hc.mono ?_
  rintro e w' ⟨rfl, hG⟩
  exact hk w' hG
theorem wpOp_alloc (hi : ops[i]? = some o) (hw : Region.wanted o (yielded ops a.tmps) = true) (ty : TypeId) (ho : o.op = .alloc ty) (z : Value) (m : Nat) (hz : ∀ w : World, (zeroValue ty).run P w = .ok z w) (hn : z.cells.size = m)
    (hk : ∀ w1, Row w1 w.heap.size ty m → w.grownBy w1 none → w1.heap.size = w.heap.size + 1 → K (a.put o.dst (.pointer (some ⟨w.heap.size, 0, none⟩))) w1) : wpOp P ops Q i K a w := by
  unfold Go.wpOp
  simp only [hi, hw, if_true]
  refine .inl ?_
  unfold Oper.wp execOp
  simp only [ho, Sem.run_bind, run_alloc ty z w hz, Result.andThen_ok]
  exact hk _ ⟨_, heap_alloc_new w _, hn⟩ (grown_alloc (grown_refl w none) _) (by show (w.heap.push _).size = _; simp)
theorem wpOp_store (hi : ops[i]? = some o) (hw : Region.wanted o (yielded ops a.tmps) = true) (ty : TypeId) (x y : Operand) (ho : o.op = .store ty x y) (g T n : Nat) (l : List UInt8) (hx : a.eval x = .pointer (some ⟨g, 0, none⟩)) (hy : a.eval y = .agg (Bs l)) (hR : Row w g T n) (hl : l.length = n)
    (hinfo : (P.info? ty).map (·.size) = some n)
    (hk : ∀ w1, Blk w1 g T l → w.grownBy w1 (some g) → w1.heap.size = w.heap.size → K (a.put o.dst undef) w1) : wpOp P ops Q i K a w := by
  unfold Go.wpOp
  simp only [hi, hw, if_true]
  refine .inl ?_
  obtain ⟨old, hg, hs⟩ := hR
  refine wp_store_row ty x y ho g (Bs l) hx hy T old hg (by rw [Bs_size, hl, hinfo]) (by rw [hs, Bs_size, hl]) (Bs_one l) ?_
  refine hk _ ?_ ?_ (size_setRow w g _)
  · exact setRow_heap w g old _ T _ hg
  · exact ⟨rfl, rfl, rfl, Nat.le_of_eq (size_setRow w g _).symm, fun i hi hr => setRow_other w g i _ (by rintro rfl; exact hr rfl)⟩
theorem yields_val {S : World → Prop} (hw : Region.wanted o (yielded ops a.tmps) = true) (u : Value) (h : ∀ w, (execOp a.eval o).run P w = .ok (.value u) w) : YieldsIf P ops S o u a := .inl ⟨hw, fun w _ => h w⟩
theorem yields_cell {S : World → Prop} (hw : Region.wanted o (yielded ops a.tmps) = true) (u : Value) (ty : TypeId) (x : Operand) (ho : o.op = .load ty x) (ad : Addr) (hx : a.eval x = .pointer (some ad)) (hl : ∀ w, w.cell? ad = some u → (loadVar ty ad : Sem Value).run P w = .ok u w)
    (hc : ∀ w, S w → w.cell? ad = some u) : YieldsIf P ops S o u a := .inl ⟨hw, fun w hS => by
    unfold execOp
    simp only [ho, hx, Instr.loadAt, Instr.sureAddr, Sem.run_bind, Sem.run_pure, Result.andThen_ok, hl w (hc w hS)]⟩
theorem yields_load {S : World → Prop} (hw : Region.wanted o (yielded ops a.tmps) = true) (ty : TypeId) (x : Operand) (ho : o.op = .load ty x) (g k n e : Nat) (l : List UInt8) (hx : a.eval x = .pointer (some ⟨g, k, none⟩)) (hB : ∀ w, S w → Rd w g k l) (hl : l.length = n)
    (hu : P.underlying ty = some (.array n e)) (hi : (P.info? ty).map (·.size) = some n) : YieldsIf P ops S o (.agg (Bs l)) a := .inl ⟨hw, fun w hS => by
    unfold execOp
    simp only [ho, hx, Instr.loadAt, Instr.sureAddr, Sem.run_bind, Sem.run_pure, Result.andThen_ok, run_loadVar_mid w g k ty (Bl l) (.array n e) (rangeAt_rd (hB w hS)) hu rfl (by rw [Bl_len, hl, hi])]
    rfl⟩
theorem yields_arr {S : World → Prop} (hw : Region.wanted o (yielded ops a.tmps) = true) (ty : TypeId) (x : Operand) (ho : o.op = .sliceToArrayPointer ty x) (A : Option Addr) (n m c e : Nat) (hx : a.eval x = .slice A m c) (hm : n ≤ m)
    (hu : P.underlying ty = some (.array n e)) : YieldsIf P ops S o (.pointer A) a := .inl ⟨hw, fun w hS => by
    unfold execOp
    simp only [ho, hx, Sem.run_bind]
    have : (Instr.arrayAt ty (.slice A m c)).run P w = .ok (.pointer A) w := by
      simp [Instr.arrayAt, run_underlying hu, Nat.not_lt.2 hm]
    rw [this]
    rfl⟩
end
end Lk
namespace Go.Proofs.Ytjbdhnmkeaogcaa
open Go.RowKit Lk
set_option maxHeartbeats 1600000 in
set_option maxRecDepth 100000 in
theorem Do_any2 (q vb : Value) (B : Nat) (key b : List UInt8) (back : Bool) (w : World) (h : Cip w B q 2 key) (hB : B ≤ w.heap.size) (hf : pfits 2 key.length = true) (hs : SlB w vb b) (hb : b.length = 8) :
    Calls Try.prog 13 #[q, vb, .bool back] w fun e w' => ∃ v, e = .returned (.tuple #[v, .nilIface]) ∧ NewA w' w.heap.size v (pdo 2 key b back) ∧ Below w.heap.size w w' := by
  obtain ⟨n, hn⟩ : ∃ n, w.heap.size = n := ⟨_, rfl⟩
  have Hn := Lib.hid hn
  have HNB := Lib.hid hb
  have HS := Lib.hid (Size_any q 2 B key w h)
  have hok := okParts_of hf
  obtain ⟨g, v, bk, rfl, h2, h3, h4, h5, h6, h7⟩ := h
  have HT := fun w' (hw' : Below n w w') => Triple_any v key b back w' (h7.under hw' (fun k hk => by have := h3 k hk; omega)) hb
  obtain ⟨r, er⟩ : ∃ r, ptriple key b back = r := ⟨_, rfl⟩
  have hrl := ptriple_len key b back
  rw [er] at hrl
  simp only [hok, er, cond_true] at HT
  have HTr := Lib.hid HT
  have HRL := Lib.hid hrl
  rw [show pdo 2 key b back = r from er]
  obtain ⟨A, c, rfl, hA, hlc, hcm, hr⟩ := hs
  rw [hb] at hlc ⊢
  obtain ⟨gb, ob, rfl, hrd⟩ := hr (by omega)
  have HRD := Lib.hid hrd
  have hgb : gb < n := by rw [← hn]; exact block_of_cell (hrd 0 (by omega))
  clear h7 h6 h3 hf hr hrd hA er hrl hb HT hok
  have H5 := Lib.hid h5
  go_enter Try.func13, Try.ntmps13
  go_wp2_with (go_at_call 32; refine HS.out.mono ?_; rintro e w0 ⟨rfl, rfl⟩)
  have hdr : Below n w0 w0.drew := by rw [← hn]; exact below_drew _
  have hn0 : w0.drew.heap.size = n := hn
  refine wp_region_held (S := fun w' => Below n w0 w') (by kernel_rfl) ?_
  show wpAnyH _ _ _ _ _ 15 _ _ w0.drew
  obtain ⟨w1, ew1⟩ : ∃ w1, w0.drew = w1 := ⟨_, rfl⟩
  rw [ew1] at hdr ⊢
  refine wpAnyH_take (i := 0) rfl (by kernel_rfl) (by kernel_rfl) (by kernel_rfl) (fun _ _ _ h => h) (yields_val (by kernel_rfl) ((.pointer (some ⟨g, 0, none⟩))) (fun w => by kernel_rfl)) hdr ?_
  refine wpAnyH_take (i := 1) rfl (by kernel_rfl) (by kernel_rfl) (by kernel_rfl) (fun _ _ _ h => h) (yields_val (by kernel_rfl) ((.pointer (some ⟨g, 0, none⟩))) (fun w => by kernel_rfl)) hdr ?_
  refine wpAnyH_take (i := 2) rfl (by kernel_rfl) (by kernel_rfl) (by kernel_rfl) (fun _ _ _ h => h) (yields_val (by kernel_rfl) ((.pointer (some ⟨g, 1, none⟩))) (fun w => by kernel_rfl)) hdr ?_
  refine wpAnyH_take (i := 3) rfl (by kernel_rfl) (by kernel_rfl) (by kernel_rfl) (fun _ _ _ h => h) (yields_cell (by kernel_rfl) v 22 _ rfl ⟨g, 1, none⟩ (by kernel_rfl) (fun w h => load_sl w _ _ h) (fun w' hw' => cell_below h5 hw' (by show g < n; omega))) hdr ?_
  refine wpAnyH_take (i := 4) rfl (by kernel_rfl) (by kernel_rfl) (by kernel_rfl) (fun _ _ _ h => h) (yields_val (by kernel_rfl) ((.slice (some ⟨gb, ob, none⟩) 8 c)) (fun w => by kernel_rfl)) hdr ?_
  refine wpAnyH_take (i := 5) rfl (by kernel_rfl) (by kernel_rfl) (by kernel_rfl) (fun _ _ _ h => h) (yields_arr (by kernel_rfl) 23 _ rfl (some ⟨gb, ob, none⟩) 8 8 c 5 (by kernel_rfl) (Nat.le_refl _) (by kernel_rfl)) hdr ?_
  refine wpAnyH_take (i := 6) rfl (by kernel_rfl) (by kernel_rfl) (by kernel_rfl) (fun _ _ _ h => h) (yields_load (by kernel_rfl) 23 _ rfl gb ob 8 5 b (by kernel_rfl) (fun w' hw' => HRD.out.below hw' hgb) HNB.out (by kernel_rfl) (by kernel_rfl)) hdr ?_
  refine wpAnyH_take (i := 7) rfl (by kernel_rfl) (by kernel_rfl) (by kernel_rfl) (fun _ _ _ h => h) (yields_val (by kernel_rfl) ((.bool back)) (fun w => by kernel_rfl)) hdr ?_
  refine wpAnyH_all (rs := [8, 12]) (by kernel_rfl) (by decide) ?_
  intro i hi
  have h1n : w1.heap.size = n := by rw [← ew1]; exact hn
  simp only [List.mem_cons, List.not_mem_nil, or_false] at hi
  rcases hi with rfl | rfl
  · refine wpOp_enter rfl (by kernel_rfl) 33 #[v, .agg (Bs b), .bool back] (.tuple #[.agg (Bs r), .nilIface]) (fun w' => Below w1.heap.size w1 w') (by kernel_rfl) (HTr.out w1 hdr) ?_
    intro w2 hG2
    have hS2 : Below n w0 w2 := below_more hdr hG2 (by omega)
    refine ⟨hS2, ?_⟩
    refine wpAnyH_take (i := 9) rfl (by kernel_rfl) (by kernel_rfl) (by kernel_rfl) (fun _ _ _ h => h) (yields_val (by kernel_rfl) ((.tuple #[.agg (Bs r), .nilIface])) (fun w => by kernel_rfl)) hS2 ?_
    refine wpAnyH_take (i := 10) rfl (by kernel_rfl) (by kernel_rfl) (by kernel_rfl) (fun _ _ _ h => h) (yields_val (by kernel_rfl) ((.agg (Bs r))) (fun w => by kernel_rfl)) hS2 ?_
    refine wpAnyH_take (i := 11) rfl (by kernel_rfl) (by kernel_rfl) (by kernel_rfl) (fun _ _ _ h => h) (yields_val (by kernel_rfl) (.nilIface) (fun w => by kernel_rfl)) hS2 ?_
    refine wpAnyH_all (rs := [12]) (by kernel_rfl) (by decide) ?_
    intro i2 hi2
    obtain rfl : i2 = 12 := by simpa using hi2
    refine wpOp_alloc rfl (by kernel_rfl) 23 rfl (.agg (Bs (List.replicate 8 0))) 8 (fun _ => by kernel_rfl) rfl ?_
    intro w3 hR3 hG3 hs3
    have h2s := hG2.size
    have hS3 : Below n w0 w3 := below_none hS2 (by omega) hG3
    refine ⟨hS3, ?_⟩
    refine wpAnyH_all (rs := [13]) (by kernel_rfl) (by decide) ?_
    intro i3 hi3
    obtain rfl : i3 = 13 := by simpa using hi3
    refine wpOp_store rfl (by kernel_rfl) 23 _ _ rfl w2.heap.size 23 8 r (by kernel_rfl) (by kernel_rfl) hR3 HRL.out (by kernel_rfl) ?_
    intro w9 hB9 hG9 hs9
    have hS9 : Below n w0 w9 := below_new hS3 (by omega) hG9 (by omega)
    refine ⟨hS9, ?_⟩
    refine wpAnyH_take (i := 14) rfl (by kernel_rfl) (by kernel_rfl) (by kernel_rfl) (fun _ _ _ h => h) (yields_val (by kernel_rfl) (.nilIface) (fun w => by kernel_rfl)) hS9 ?_
    refine wpAnyH_done (by kernel_rfl) ?_ _
    obtain ⟨gr, egr⟩ : ∃ gr, w2.heap.size = gr := ⟨_, rfl⟩
    have hgr : n ≤ gr := by omega
    rw [egr] at hB9 ⊢
    simp only [Act.put, List.setIfInBounds_toArray, List.set_cons_succ, List.set_cons_zero]
    go_wp2
    go_ret2
    refine ⟨_, rfl, ⟨gr, 23, by decide, by rw [HRL.out]; rfl, by omega, hB9⟩, ?_⟩
    rw [hn]; exact hS9
  · refine wpOp_alloc rfl (by kernel_rfl) 23 rfl (.agg (Bs (List.replicate 8 0))) 8 (fun _ => by kernel_rfl) rfl ?_
    intro w2 hR2 hG2 hs2
    have hS2 : Below n w0 w2 := below_none hdr (by omega) hG2
    refine ⟨hS2, ?_⟩
    refine wpAnyH_all (rs := [8]) (by kernel_rfl) (by decide) ?_
    intro i2 hi2
    obtain rfl : i2 = 8 := by simpa using hi2
    refine wpOp_enter rfl (by kernel_rfl) 33 #[v, .agg (Bs b), .bool back] (.tuple #[.agg (Bs r), .nilIface]) (fun w' => Below w2.heap.size w2 w') (by kernel_rfl) (HTr.out w2 hS2) ?_
    intro w3 hG3
    have h3s := hG3.size
    have hS3 : Below n w0 w3 := below_more hS2 hG3 (by omega)
    have hR3 := hR2.below hG3 (by omega)
    refine ⟨hS3, ?_⟩
    refine wpAnyH_take (i := 9) rfl (by kernel_rfl) (by kernel_rfl) (by kernel_rfl) (fun _ _ _ h => h) (yields_val (by kernel_rfl) ((.tuple #[.agg (Bs r), .nilIface])) (fun w => by kernel_rfl)) hS3 ?_
    refine wpAnyH_take (i := 10) rfl (by kernel_rfl) (by kernel_rfl) (by kernel_rfl) (fun _ _ _ h => h) (yields_val (by kernel_rfl) ((.agg (Bs r))) (fun w => by kernel_rfl)) hS3 ?_
    refine wpAnyH_take (i := 11) rfl (by kernel_rfl) (by kernel_rfl) (by kernel_rfl) (fun _ _ _ h => h) (yields_val (by kernel_rfl) (.nilIface) (fun w => by kernel_rfl)) hS3 ?_
    refine wpAnyH_all (rs := [13]) (by kernel_rfl) (by decide) ?_
    intro i3 hi3
    obtain rfl : i3 = 13 := by simpa using hi3
    refine wpOp_store rfl (by kernel_rfl) 23 _ _ rfl w1.heap.size 23 8 r (by kernel_rfl) (by kernel_rfl) hR3 HRL.out (by kernel_rfl) ?_
    intro w9 hB9 hG9 hs9
    have hS9 : Below n w0 w9 := below_new hS3 (by omega) hG9 (by omega)
    refine ⟨hS9, ?_⟩
    refine wpAnyH_take (i := 14) rfl (by kernel_rfl) (by kernel_rfl) (by kernel_rfl) (fun _ _ _ h => h) (yields_val (by kernel_rfl) (.nilIface) (fun w => by kernel_rfl)) hS9 ?_
    refine wpAnyH_done (by kernel_rfl) ?_ _
    obtain ⟨gr, egr⟩ : ∃ gr, w1.heap.size = gr := ⟨_, rfl⟩
    have hgr : n ≤ gr := by omega
    rw [egr] at hB9 ⊢
    simp only [Act.put, List.setIfInBounds_toArray, List.set_cons_succ, List.set_cons_zero]
    go_wp2
    go_ret2
    refine ⟨_, rfl, ⟨gr, 23, by decide, by rw [HRL.out]; rfl, by omega, hB9⟩, ?_⟩
    rw [hn]; exact hS9
theorem Do_any (q vb : Value) (B kind : Nat) (key b : List UInt8) (back : Bool) (w : World) (hk : kind = 1 ∨ kind = 2) (h : Cip w B q kind key) (hB : B ≤ w.heap.size) (hf : pfits kind key.length = true) (hs : SlB w vb b) (hb : b.length = psize kind) :
    Calls Try.prog 13 #[q, vb, .bool back] w fun e w' => ∃ v, e = .returned (.tuple #[v, .nilIface]) ∧ NewA w' w.heap.size v (pdo kind key b back) ∧ Below w.heap.size w w' := by
  rcases hk with rfl | rfl
  · exact Do_any1 q vb B key b back w h hB hf hs hb
  · exact Do_any2 q vb B key b back w h hB hf hs hb
end Go.Proofs.Ytjbdhnmkeaogcaa
