/- A region that leaves its order open and makes memory: operations taken first, and what does not yield in all worlds, one at a time. -/
import Derived.Test.YtbbfjlnkhenbiaaDoorKB3
import Derived.OrdersHeld
import Derived.Laws.MakeOwn
import Derived.Conc.PipeWords
import Derived.Test.YtbbfjlnkhenbiaaDoorKB0
set_option linter.unusedVariables false
set_option linter.unusedSimpArgs false
namespace Lk
open Go Go.RowKit
section
variable {P : Program} {ops : Array Oper} {Q : Exit → Act → World → Prop} {K : Act → World → Prop} {i : Nat} {o : Oper} {a : Act} {w : World}
theorem wpOp_enter (hi : ops[i]? = some o) (hw : Region.wanted o (yielded ops a.tmps) = true) (f : FuncId) (args : Array Value) (v : Value) (G : World → Prop) (h : (execOp a.eval o).run P w = .ok (.enter f args) w)
    (hc : Calls P f args w fun e w' => e = .returned v ∧ G w') (hk : ∀ w', G w' → K (a.put o.dst v) w') : wpOp P ops Q i K a w := by
  unfold Go.wpOp
  simp only [hi, hw, if_true]
  refine .inl ?_
  unfold Oper.wp
  rw [h]
  refine hc.mono ?_
  rintro e w' ⟨rfl, hG⟩
  exact hk w' hG
theorem wpOp_alloc (hi : ops[i]? = some o) (hw : Region.wanted o (yielded ops a.tmps) = true) (ty : TypeId) (ho : o.op = .alloc ty) (z : Value) (m : Nat) (hz : ∀ w : World, (zeroValue ty).run P w = .ok z w) (hn : z.cells.size = m)
    (hk : ∀ w1, Row w1 w.heap.size ty m → w.grownBy w1 none → w1.heap.size = w.heap.size + 1 → K (a.put o.dst (.pointer (some ⟨w.heap.size, 0, none⟩))) w1) : wpOp P ops Q i K a w := by
  unfold Go.wpOp
  simp only [hi, hw, if_true]
  refine .inl ?_
  unfold Oper.wp execOp
  simp only [ho, Sem.run_bind, run_alloc ty z w hz, Result.andThen_ok]
  exact hk _ ⟨_, heap_alloc_new w _, hn⟩ (grown_alloc (grown_refl w none) _) (by show (w.heap.push _).size = _; simp)
theorem wpOp_store (hi : ops[i]? = some o) (hw : Region.wanted o (yielded ops a.tmps) = true) (ty : TypeId) (x y : Operand) (ho : o.op = .store ty x y) (g T n : Nat) (l : List UInt8) (hx : a.eval x = .pointer (some ⟨g, 0, none⟩)) (hy : a.eval y = .agg (Bs l)) (hR : Row w g T n) (hl : l.length = n)
    (hinfo : (P.info? ty).map (·.size) = some n)
    (hk : ∀ w1, Blk w1 g T l → w.grownBy w1 (some g) → w1.heap.size = w.heap.size → K (a.put o.dst undef) w1) : wpOp P ops Q i K a w := by
  unfold Go.wpOp
  simp only [hi, hw, if_true]
  refine .inl ?_
  obtain ⟨old, hg, hs⟩ := hR
  refine wp_store_row ty x y ho g (Bs l) hx hy T old hg (by rw [Bs_size, hl, hinfo]) (by rw [hs, Bs_size, hl]) (Bs_one l) ?_
  refine hk _ ?_ ?_ (size_setRow w g _)
  · exact setRow_heap w g old _ T _ hg
  · exact ⟨rfl, rfl, rfl, Nat.le_of_eq (size_setRow w g _).symm, fun i hi hr => setRow_other w g i _ (by rintro rfl; exact hr rfl)⟩
theorem yields_val {S : World → Prop} (hw : Region.wanted o (yielded ops a.tmps) = true) (u : Value) (h : ∀ w, (execOp a.eval o).run P w = .ok (.value u) w) : YieldsIf P ops S o u a := .inl ⟨hw, fun w _ => h w⟩
theorem yields_cell {S : World → Prop} (hw : Region.wanted o (yielded ops a.tmps) = true) (u : Value) (ty : TypeId) (x : Operand) (ho : o.op = .load ty x) (ad : Addr) (hx : a.eval x = .pointer (some ad)) (hl : ∀ w, w.cell? ad = some u → (loadVar ty ad : Sem Value).run P w = .ok u w)
    (hc : ∀ w, S w → w.cell? ad = some u) : YieldsIf P ops S o u a := .inl ⟨hw, fun w hS => by
    unfold execOp
    simp only [ho, hx, Instr.loadAt, Instr.sureAddr, Sem.run_bind, Sem.run_pure, Result.andThen_ok, hl w (hc w hS)]⟩
theorem yields_load {S : World → Prop} (hw : Region.wanted o (yielded ops a.tmps) = true) (ty : TypeId) (x : Operand) (ho : o.op = .load ty x) (g k n e : Nat) (l : List UInt8) (hx : a.eval x = .pointer (some ⟨g, k, none⟩)) (hB : ∀ w, S w → Rd w g k l) (hl : l.length = n)
    (hu : P.underlying ty = some (.array n e)) (hi : (P.info? ty).map (·.size) = some n) : YieldsIf P ops S o (.agg (Bs l)) a := .inl ⟨hw, fun w hS => by
    unfold execOp
    simp only [ho, hx, Instr.loadAt, Instr.sureAddr, Sem.run_bind, Sem.run_pure, Result.andThen_ok, run_loadVar_mid w g k ty (Bl l) (.array n e) (rangeAt_rd (hB w hS)) hu rfl (by rw [Bl_len, hl, hi])]
    rfl⟩
theorem yields_arr {S : World → Prop} (hw : Region.wanted o (yielded ops a.tmps) = true) (ty : TypeId) (x : Operand) (ho : o.op = .sliceToArrayPointer ty x) (A : Option Addr) (n m c e : Nat) (hx : a.eval x = .slice A m c) (hm : n ≤ m)
    (hu : P.underlying ty = some (.array n e)) : YieldsIf P ops S o (.pointer A) a := .inl ⟨hw, fun w hS => by
    unfold execOp
    simp only [ho, hx, Sem.run_bind]
    have : (Instr.arrayAt ty (.slice A m c)).run P w = .ok (.pointer A) w := by
      simp [Instr.arrayAt, run_underlying hu, Nat.not_lt.2 hm]
    rw [this]
    rfl⟩
end
end Lk
namespace Go.Proofs.YtbbfjlnkhenbiaaDoor
open Go.RowKit Lk
set_option maxHeartbeats 1600000 in
set_option maxRecDepth 100000 in
theorem Do_any2 (q vb : Value) (B : Nat) (key b : List UInt8) (back : Bool) (w : World) (h : Cip w B q 2 key) (hB : B ≤ w.heap.size) (hf : pfits 2 key.length = true) (hs : SlB w vb b) (hb : b.length = 8) :
    Calls Tryd.prog 17 #[q, vb, .bool back] w fun e w' => ∃ v, e = .returned (.tuple #[v, .nilIface]) ∧ NewA w' w.heap.size v (pdo 2 key b back) ∧ Below w.heap.size w w' := by
  obtain ⟨n, hn⟩ : ∃ n, w.heap.size = n := ⟨_, rfl⟩
  have Hn := Lib.hid hn
  have HNB := Lib.hid hb
  have HS := Lib.hid (Size_any q 2 B key w h)
  have hok := okParts_of hf
  obtain ⟨g, v, bk, rfl, h2, h3, h4, h5, h6, h7⟩ := h
  have HT := fun w' (hw' : Below n w w') => Triple_any v key b back w' (h7.under hw' (fun k hk => by have := h3 k hk; omega)) hb
  obtain ⟨r, er⟩ : ∃ r, ptriple key b back = r := ⟨_, rfl⟩
  have hrl := ptriple_len key b back
  rw [er] at hrl
  simp only [hok, er, cond_true] at HT
  have HTr := Lib.hid HT
  have HRL := Lib.hid hrl
  rw [show pdo 2 key b back = r from er]
  obtain ⟨A, c, rfl, hA, hlc, hcm, hr⟩ := hs
  rw [hb] at hlc ⊢
  obtain ⟨gb, ob, rfl, hrd⟩ := hr (by omega)
  have HRD := Lib.hid hrd
  have hgb : gb < n := by rw [← hn]; exact block_of_cell (hrd 0 (by omega))
  clear h7 h6 h3 hf hr hrd hA er hrl hb HT hok
  have H5 := Lib.hid h5
  go_enter Tryd.func17, Tryd.ntmps17
  go_wp2_with (go_at_call 15; refine HS.out.mono ?_; rintro e w0 ⟨rfl, rfl⟩)
  have hdr : Below n w0 w0.drew := by rw [← hn]; exact below_drew _
  have hn0 : w0.drew.heap.size = n := hn
  refine wp_region_held (S := fun w' => Below n w0 w') (by kernel_rfl) ?_
  show wpAnyH _ _ _ _ _ 15 _ _ w0.drew
  obtain ⟨w1, ew1⟩ : ∃ w1, w0.drew = w1 := ⟨_, rfl⟩
  rw [ew1] at hdr ⊢
  refine wpAnyH_take (i := 0) rfl (by kernel_rfl) (by kernel_rfl) (by kernel_rfl) (fun _ _ _ h => h) (yields_val (by kernel_rfl) ((.pointer (some ⟨g, 0, none⟩))) (fun w => by kernel_rfl)) hdr ?_
  refine wpAnyH_take (i := 1) rfl (by kernel_rfl) (by kernel_rfl) (by kernel_rfl) (fun _ _ _ h => h) (yields_val (by kernel_rfl) ((.pointer (some ⟨g, 0, none⟩))) (fun w => by kernel_rfl)) hdr ?_
  refine wpAnyH_take (i := 2) rfl (by kernel_rfl) (by kernel_rfl) (by kernel_rfl) (fun _ _ _ h => h) (yields_val (by kernel_rfl) ((.pointer (some ⟨g, 1, none⟩))) (fun w => by kernel_rfl)) hdr ?_
  refine wpAnyH_take (i := 3) rfl (by kernel_rfl) (by kernel_rfl) (by kernel_rfl) (fun _ _ _ h => h) (yields_cell (by kernel_rfl) v 22 _ rfl ⟨g, 1, none⟩ (by kernel_rfl) (fun w h => load_sl w _ _ h) (fun w' hw' => cell_below h5 hw' (by show g < n; omega))) hdr ?_
  refine wpAnyH_take (i := 4) rfl (by kernel_rfl) (by kernel_rfl) (by kernel_rfl) (fun _ _ _ h => h) (yields_val (by kernel_rfl) ((.slice (some ⟨gb, ob, none⟩) 8 c)) (fun w => by kernel_rfl)) hdr ?_
  refine wpAnyH_take (i := 5) rfl (by kernel_rfl) (by kernel_rfl) (by kernel_rfl) (fun _ _ _ h => h) (yields_arr (by kernel_rfl) 75 _ rfl (some ⟨gb, ob, none⟩) 8 8 c 5 (by kernel_rfl) (Nat.le_refl _) (by kernel_rfl)) hdr ?_
  refine wpAnyH_take (i := 6) rfl (by kernel_rfl) (by kernel_rfl) (by kernel_rfl) (fun _ _ _ h => h) (yields_load (by kernel_rfl) 75 _ rfl gb ob 8 5 b (by kernel_rfl) (fun w' hw' => HRD.out.below hw' hgb) HNB.out (by kernel_rfl) (by kernel_rfl)) hdr ?_
  refine wpAnyH_take (i := 7) rfl (by kernel_rfl) (by kernel_rfl) (by kernel_rfl) (fun _ _ _ h => h) (yields_val (by kernel_rfl) ((.bool back)) (fun w => by kernel_rfl)) hdr ?_
  refine wpAnyH_all (rs := [8, 12]) (by kernel_rfl) (by decide) ?_
  intro i hi
  have h1n : w1.heap.size = n := by rw [← ew1]; exact hn
  simp only [List.mem_cons, List.not_mem_nil, or_false] at hi
  rcases hi with rfl | rfl
  · refine wpOp_enter rfl (by kernel_rfl) 33 #[v, .agg (Bs b), .bool back] (.tuple #[.agg (Bs r), .nilIface]) (fun w' => Below w1.heap.size w1 w') (by kernel_rfl) (HTr.out w1 hdr) ?_
    intro w2 hG2
    have hS2 : Below n w0 w2 := below_more hdr hG2 (by omega)
    refine ⟨hS2, ?_⟩
    refine wpAnyH_take (i := 9) rfl (by kernel_rfl) (by kernel_rfl) (by kernel_rfl) (fun _ _ _ h => h) (yields_val (by kernel_rfl) ((.tuple #[.agg (Bs r), .nilIface])) (fun w => by kernel_rfl)) hS2 ?_
    refine wpAnyH_take (i := 10) rfl (by kernel_rfl) (by kernel_rfl) (by kernel_rfl) (fun _ _ _ h => h) (yields_val (by kernel_rfl) ((.agg (Bs r))) (fun w => by kernel_rfl)) hS2 ?_
    refine wpAnyH_take (i := 11) rfl (by kernel_rfl) (by kernel_rfl) (by kernel_rfl) (fun _ _ _ h => h) (yields_val (by kernel_rfl) (.nilIface) (fun w => by kernel_rfl)) hS2 ?_
    refine wpAnyH_all (rs := [12]) (by kernel_rfl) (by decide) ?_
    intro i2 hi2
    obtain rfl : i2 = 12 := by simpa using hi2
    refine wpOp_alloc rfl (by kernel_rfl) 75 rfl (.agg (Bs (List.replicate 8 0))) 8 (fun _ => by kernel_rfl) rfl ?_
    intro w3 hR3 hG3 hs3
    have h2s := hG2.size
    have hS3 : Below n w0 w3 := below_none hS2 (by omega) hG3
    refine ⟨hS3, ?_⟩
    refine wpAnyH_all (rs := [13]) (by kernel_rfl) (by decide) ?_
    intro i3 hi3
    obtain rfl : i3 = 13 := by simpa using hi3
    refine wpOp_store rfl (by kernel_rfl) 75 _ _ rfl w2.heap.size 75 8 r (by kernel_rfl) (by kernel_rfl) hR3 HRL.out (by kernel_rfl) ?_
    intro w9 hB9 hG9 hs9
    have hS9 : Below n w0 w9 := below_new hS3 (by omega) hG9 (by omega)
    refine ⟨hS9, ?_⟩
    refine wpAnyH_take (i := 14) rfl (by kernel_rfl) (by kernel_rfl) (by kernel_rfl) (fun _ _ _ h => h) (yields_val (by kernel_rfl) (.nilIface) (fun w => by kernel_rfl)) hS9 ?_
    refine wpAnyH_done (by kernel_rfl) ?_ _
    obtain ⟨gr, egr⟩ : ∃ gr, w2.heap.size = gr := ⟨_, rfl⟩
    have hgr : n ≤ gr := by omega
    rw [egr] at hB9 ⊢
    simp only [Act.put, List.setIfInBounds_toArray, List.set_cons_succ, List.set_cons_zero]
    go_wp2
    go_ret2
    refine ⟨_, rfl, ⟨gr, 75, by decide, by rw [HRL.out]; rfl, by omega, hB9⟩, ?_⟩
    rw [hn]; exact hS9
  · refine wpOp_alloc rfl (by kernel_rfl) 75 rfl (.agg (Bs (List.replicate 8 0))) 8 (fun _ => by kernel_rfl) rfl ?_
    intro w2 hR2 hG2 hs2
    have hS2 : Below n w0 w2 := below_none hdr (by omega) hG2
    refine ⟨hS2, ?_⟩
    refine wpAnyH_all (rs := [8]) (by kernel_rfl) (by decide) ?_
    intro i2 hi2
    obtain rfl : i2 = 8 := by simpa using hi2
    refine wpOp_enter rfl (by kernel_rfl) 33 #[v, .agg (Bs b), .bool back] (.tuple #[.agg (Bs r), .nilIface]) (fun w' => Below w2.heap.size w2 w') (by kernel_rfl) (HTr.out w2 hS2) ?_
    intro w3 hG3
    have h3s := hG3.size
    have hS3 : Below n w0 w3 := below_more hS2 hG3 (by omega)
    have hR3 := hR2.below hG3 (by omega)
    refine ⟨hS3, ?_⟩
    refine wpAnyH_take (i := 9) rfl (by kernel_rfl) (by kernel_rfl) (by kernel_rfl) (fun _ _ _ h => h) (yields_val (by kernel_rfl) ((.tuple #[.agg (Bs r), .nilIface])) (fun w => by kernel_rfl)) hS3 ?_
    refine wpAnyH_take (i := 10) rfl (by kernel_rfl) (by kernel_rfl) (by kernel_rfl) (fun _ _ _ h => h) (yields_val (by kernel_rfl) ((.agg (Bs r))) (fun w => by kernel_rfl)) hS3 ?_
    refine wpAnyH_take (i := 11) rfl (by kernel_rfl) (by kernel_rfl) (by kernel_rfl) (fun _ _ _ h => h) (yields_val (by kernel_rfl) (.nilIface) (fun w => by kernel_rfl)) hS3 ?_
    refine wpAnyH_all (rs := [13]) (by kernel_rfl) (by decide) ?_
    intro i3 hi3
    obtain rfl : i3 = 13 := by simpa using hi3
    refine wpOp_store rfl (by kernel_rfl) 75 _ _ rfl w1.heap.size 75 8 r (by kernel_rfl) (by kernel_rfl) hR3 HRL.out (by kernel_rfl) ?_
    intro w9 hB9 hG9 hs9
    have hS9 : Below n w0 w9 := below_new hS3 (by omega) hG9 (by omega)
    refine ⟨hS9, ?_⟩
    refine wpAnyH_take (i := 14) rfl (by kernel_rfl) (by kernel_rfl) (by kernel_rfl) (fun _ _ _ h => h) (yields_val (by kernel_rfl) (.nilIface) (fun w => by kernel_rfl)) hS9 ?_
    refine wpAnyH_done (by kernel_rfl) ?_ _
    obtain ⟨gr, egr⟩ : ∃ gr, w1.heap.size = gr := ⟨_, rfl⟩
    have hgr : n ≤ gr := by omega
    rw [egr] at hB9 ⊢
    simp only [Act.put, List.setIfInBounds_toArray, List.set_cons_succ, List.set_cons_zero]
    go_wp2
    go_ret2
    refine ⟨_, rfl, ⟨gr, 75, by decide, by rw [HRL.out]; rfl, by omega, hB9⟩, ?_⟩
    rw [hn]; exact hS9
theorem Do_any (q vb : Value) (B kind : Nat) (key b : List UInt8) (back : Bool) (w : World) (hk : kind = 1 ∨ kind = 2) (h : Cip w B q kind key) (hB : B ≤ w.heap.size) (hf : pfits kind key.length = true) (hs : SlB w vb b) (hb : b.length = psize kind) :
    Calls Tryd.prog 17 #[q, vb, .bool back] w fun e w' => ∃ v, e = .returned (.tuple #[v, .nilIface]) ∧ NewA w' w.heap.size v (pdo kind key b back) ∧ Below w.heap.size w w' := by
  rcases hk with rfl | rfl
  · exact Do_any1 q vb B key b back w h hB hf hs hb
  · exact Do_any2 q vb B key b back w h hB hf hs hb
end Go.Proofs.YtbbfjlnkhenbiaaDoor
set_option linter.unusedVariables false
set_option linter.unusedSimpArgs false
namespace Lk
open Go Go.RowKit
theorem made_zero (n : Nat) : madeCells #[.int .u8 0] n = Bs (List.replicate n 0) := by
  apply Array.ext
  · simp [size_madeCells, Bs]
  · intro i h1 h2
    simp [madeCells, Bs, Nat.mod_one, bv]
section
variable {P : Program} {ops : Array Oper} {rest : List Oper} {o : Oper} {a : Act} {w : World} {Q : Exit → Act → World → Prop}
theorem make_new (hgd : o.guard = none) (t e : TypeId) (l c : Operand) (ho : o.op = .makeSlice t l c) (n : Nat) (hu : P.underlying t = some (.slice e)) (hinfo : (P.info? e).map (fun i => (i.zero, i.size, i.bytes)) = some (some (.int .u8 0), 1, 1))
    (kl kc : IntKind) (hl : a.eval l = .int kl n) (hc : a.eval c = .int kc n) (hn : n ≤ 1099511627776)
    (h : ∀ w1, Blk w1 w.heap.size e (List.replicate n 0) → w.grownBy w1 none → w1.heap.size = w.heap.size + 1 → wpList P ops Q rest (a.put o.dst (.slice (some ⟨w.heap.size, 0, none⟩) n n)) w1) : wpList P ops Q (o :: rest) a w :=
  wpList_plain hgd fun _ hK => by
    obtain ⟨i, hi, hz, hs, hb⟩ := info_parts hinfo
    have hr := run_make (P := P) w t e i _ hu hi hz kl kc (n : Int) (n : Int) (by omega) (by omega) (by rw [hb]; omega) (by omega)
    rw [hs, Nat.mul_one, Int.toNat_natCast] at hr
    have e0 : (Value.int IntKind.u8 0).cells = #[.int .u8 0] := rfl
    rw [e0, made_zero] at hr
    unfold Oper.wp execOp
    simp only [ho, hl, hc, Sem.run_bind, hr, Result.andThen_ok]
    exact hK _ _ (h _ (heap_alloc_new w _) (grown_alloc (grown_refl w none) _) (by show (w.heap.push _).size = _; simp))
end
/-- the first k bytes turned -/
def xorTo (a b : List UInt8) (k : Nat) : List UInt8 := (List.range a.length).map fun i => if i < k then g8 a i ^^^ g8 b i else 0
def pxor (a b : List UInt8) : List UInt8 := xorTo a b a.length
theorem xorTo_len (a b : List UInt8) (k : Nat) : (xorTo a b k).length = a.length := by simp [xorTo]
theorem pxor_len (a b : List UInt8) : (pxor a b).length = a.length := xorTo_len _ _ _
theorem xorTo_zero (a b : List UInt8) : xorTo a b 0 = List.replicate a.length 0 := by
  apply List.ext_getElem
  · simp [xorTo]
  · intro i h1 h2; simp [xorTo]
theorem xorTo_set (a b : List UInt8) (k : Nat) (hk : k < a.length) : (xorTo a b k).set k (g8 a k ^^^ g8 b k) = xorTo a b (k + 1) := by
  apply List.ext_getElem
  · simp [xorTo]
  · intro i h1 h2
    rw [List.getElem_set]
    simp only [xorTo, List.getElem_map, List.getElem_range]
    by_cases h : k = i
    · subst h; simp
    · by_cases h' : i < k
      · rw [if_neg h, if_pos h', if_pos (by omega)]
      · rw [if_neg h, if_neg h', if_neg (by omega)]
end Lk
namespace Go.Proofs.YtbbfjlnkhenbiaaDoor
open Go.RowKit Lk
end Go.Proofs.YtbbfjlnkhenbiaaDoor
set_option linter.unusedVariables false
set_option linter.unusedSimpArgs false
namespace Lk
open Go Go.RowKit
/-- one cell of a block, that may be written -/
def One (w : World) (g : Nat) (T : TypeId) (v : Value) : Prop := w.heap[g]? = some (.cells #[v] T (0, 0))
theorem One.lt {w : World} {g T : Nat} {v : Value} (h : One w g T v) : g < w.heap.size := (Array.getElem?_eq_some_iff.1 h).1
theorem One.cell {w : World} {g T : Nat} {v : Value} (h : One w g T v) : w.cell? ⟨g, 0, none⟩ = some v := by
  rw [cell_of_row w g 0 _ T _ h]; rfl
theorem One.free {w : World} {g T : Nat} {v : Value} (h : One w g T v) : w.frozen? ⟨g, 0, none⟩ = false := frozen_of_row w g 0 _ T h
theorem One.set {w : World} {g T : Nat} {v : Value} (h : One w g T v) (u : Value) : One (w.setCell ⟨g, 0, none⟩ u) g T u := by
  unfold One
  rw [heap_setCell_same w g 0 _ T _ h]; rfl
theorem One.below {w w1 : World} {g T B : Nat} {v : Value} (h : One w g T v) (hG : Below B w w1) (hg : g < B) : One w1 g T v := by
  unfold One; rw [hG.block g hg]; exact h
theorem One.under2 {w w1 : World} {g T : Nat} {v : Value} (h : One w g T v) (hG : Below w.heap.size w w1) : One w1 g T v := h.below hG h.lt
theorem One.old {w w1 : World} {g T : Nat} {v : Value} (h : One w g T v) {row : Option Nat} (hG : w.grownBy w1 row) (hne : row ≠ some g) : One w1 g T v := by
  unfold One
  rw [hG.block g h.lt (fun e => hne e.symm)]; exact h
theorem grown_of_below {w w1 : World} (h : Below w.heap.size w w1) (row : Option Nat) : w.grownBy w1 row := ⟨h.os, h.tape, h.output, h.size, fun i hi _ => h.block i hi⟩
theorem psize_le (kind : Nat) : psize kind = 8 ∨ psize kind = 16 := by unfold psize; split <;> simp
theorem Blk.under {w w1 : World} {g T : Nat} {l : List UInt8} (h : Blk w g T l) (hG : Below w.heap.size w w1) : Blk w1 g T l := h.below hG h.lt
theorem NewA.set {w : World} {base g3 : Nat} {v u : Value} {l : List UInt8} (h : NewA w base v l) (hg : g3 < base) : NewA (w.setCell ⟨g3, 0, none⟩ u) base v l := by
  obtain ⟨g, T, h0, h1, h2, h3⟩ := h
  exact ⟨g, T, h0, h1, h2, h3.old (row := some g3) (grown_set (grown_refl _ _) 0 u) (by simp; omega)⟩
end Lk
namespace Go.Proofs.YtbbfjlnkhenbiaaDoor
open Go.RowKit Lk
end Go.Proofs.YtbbfjlnkhenbiaaDoor
set_option linter.unusedVariables false
set_option linter.unusedSimpArgs false
namespace Lk
open Go Go.RowKit
/-- the k-th block of n bytes -/
def blkAt (t : List UInt8) (n k : Nat) : List UInt8 := (t.drop (n * k)).take n
/-- what is enciphered of k blocks, and the last one -/
def chTo (kind : Nat) (key start text : List UInt8) : Nat → List UInt8 × List UInt8
  | 0 => ([], start)
  | k + 1 => ((chTo kind key start text k).1 ++ pdo kind key (pxor (blkAt text (psize kind) k) (chTo kind key start text k).2) false, pdo kind key (pxor (blkAt text (psize kind) k) (chTo kind key start text k).2) false)
theorem Cip.row {w w1 : World} {B g3 : Nat} {q : Value} {kind : Nat} {key : List UInt8} (h : Cip w B q kind key) (hG : w.grownBy w1 (some g3)) (hb : B ≤ g3) : Cip w1 B q kind key := by
  obtain ⟨g, v, bk, h1, h2, h3, h4, h5, h6, h7⟩ := h
  have hn : (some g3 : Option Nat) ≠ some g := by simp; omega
  refine ⟨g, v, bk, h1, h2, h3, cell_old h4 hG hn, cell_old h5 hG hn, cell_old h6 hG hn, h7.old hG ?_⟩
  cases hv : v.ownBlock with
  | none => exact .inl rfl
  | some k => exact .inr (by have := h3 k hv; simp; omega)
theorem chTo_last (kind : Nat) (key start text : List UInt8) (k : Nat) (hk : kind = 1 ∨ kind = 2) (hs : start.length = psize kind) : (chTo kind key start text k).2.length = psize kind := by
  cases k
  · exact hs
  · exact pdo_len _ _ _ _ hk
theorem chTo_len (kind : Nat) (key start text : List UInt8) (k : Nat) (hk : kind = 1 ∨ kind = 2) : (chTo kind key start text k).1.length = psize kind * k := by
  induction k with
  | zero => simp [chTo]
  | succ k ih => simp only [chTo]; rw [List.length_append, ih, pdo_len _ _ _ _ hk, Nat.mul_succ]
end Lk
namespace Go.Proofs.YtbbfjlnkhenbiaaDoor
open Go.RowKit Lk
end Go.Proofs.YtbbfjlnkhenbiaaDoor
set_option linter.unusedVariables false
set_option linter.unusedSimpArgs false
namespace Lk
open Go Go.RowKit
section
variable {P : Program} {ops : Array Oper} {rest : List Oper} {o : Oper} {a : Act} {w : World} {Q : Exit → Act → World → Prop}
theorem box_one (hgd : o.guard = none) (ty : TypeId) (x : Operand) (ho : o.op = .box ty x) (u : Value) (hx : a.eval x = u) (hu : u.cells = #[u])
    (h : ∀ w1, One w1 w.heap.size ty u → w.grownBy w1 none → w1.heap.size = w.heap.size + 1 → wpList P ops Q rest (a.put o.dst (.pointer (some ⟨w.heap.size, 0, none⟩))) w1) : wpList P ops Q (o :: rest) a w :=
  wpList_plain hgd fun _ hK => by
    unfold Oper.wp execOp
    simp only [ho, Sem.run_bind, hx, run_box ty _ w, Result.andThen_ok]
    refine hK _ _ (h _ ?_ (grown_alloc (grown_refl w none) _) (by show (w.heap.push _).size = _; simp))
    unfold One
    rw [← hu]; exact heap_alloc_new w _
theorem alloc_one (hgd : o.guard = none) (ty : TypeId) (ho : o.op = .alloc ty) (z : Value) (hz : ∀ w : World, (zeroValue ty).run P w = .ok z w) (hu : z.cells = #[z])
    (h : ∀ w1, One w1 w.heap.size ty z → w.grownBy w1 none → w1.heap.size = w.heap.size + 1 → wpList P ops Q rest (a.put o.dst (.pointer (some ⟨w.heap.size, 0, none⟩))) w1) : wpList P ops Q (o :: rest) a w :=
  wpList_plain hgd fun _ hK => by
    unfold Oper.wp execOp
    simp only [ho, Sem.run_bind, run_alloc ty z w hz, Result.andThen_ok]
    refine hK _ _ (h _ ?_ (grown_alloc (grown_refl w none) _) (by show (w.heap.push _).size = _; simp))
    unfold One
    rw [← hu]; exact heap_alloc_new w _
theorem store_one (hgd : o.guard = none) (ty : TypeId) (x y : Operand) (ho : o.op = .store ty x y) (g T : Nat) (v u : Value) (hx : a.eval x = .pointer (some ⟨g, 0, none⟩)) (hy : a.eval y = u) (h1 : u.oneCell' = true) (hO : One w g T v) (hi : (P.info? ty).map (·.size) = some 1)
    (h : ∀ w1, One w1 g T u → w.grownBy w1 (some g) → w1.heap.size = w.heap.size → wpList P ops Q rest (a.put o.dst undef) w1) : wpList P ops Q (o :: rest) a w := by
  subst hy
  refine wpList_store_one hgd ty x y ho g hx h1 T v hO hi (h _ ?_ ?_ (size_setRow w g _))
  · exact setRow_heap w g _ _ T _ hO
  · exact ⟨rfl, rfl, rfl, Nat.le_of_eq (size_setRow w g _).symm, fun i hi hr => setRow_other w g i _ (by rintro rfl; exact hr rfl)⟩
end
end Lk
namespace Go.Proofs.YtbbfjlnkhenbiaaDoor
open Go.RowKit Lk
end Go.Proofs.YtbbfjlnkhenbiaaDoor
set_option linter.unusedVariables false
set_option linter.unusedSimpArgs false
namespace Lk
open Go Go.RowKit
/-- the last block of a text that is chained from zeros -/
def pchain (kind : Nat) (key text : List UInt8) (m : Nat) : List UInt8 := (chTo kind key (List.replicate (psize kind) 0) text m).2
theorem chTo_drop (kind : Nat) (key start text : List UInt8) (m : Nat) (hk : kind = 1 ∨ kind = 2) (hm : 0 < m) : ((chTo kind key start text m).1).drop (psize kind * (m - 1)) = (chTo kind key start text m).2 := by
  obtain ⟨k, rfl⟩ : ∃ k, m = k + 1 := ⟨m - 1, by omega⟩
  simp only [chTo, Nat.add_sub_cancel]
  rw [List.drop_left' (chTo_len kind key start text k hk)]
end Lk
namespace Go.Proofs.YtbbfjlnkhenbiaaDoor
open Go.RowKit Lk
end Go.Proofs.YtbbfjlnkhenbiaaDoor
set_option linter.unusedVariables false
set_option linter.unusedSimpArgs false
namespace Lk
open Go Go.RowKit
theorem same_ext {a b : List UInt8} (h : a.length = b.length) (hi : ∀ i, i < a.length → g8 a i = g8 b i) : a = b := by
  apply List.ext_getElem h
  intro i h1 h2
  have := hi i h1
  simpa [g8, h1, h2] using this
/-- the sum of what differs in the first k bytes -/
def diffTo (a b : List UInt8) : Nat → UInt8
  | 0 => 0
  | k + 1 => diffTo a b k ||| (g8 a k ^^^ g8 b k)
theorem diffTo_zero (a b : List UInt8) (k : Nat) : diffTo a b k = 0 ↔ ∀ i, i < k → g8 a i = g8 b i := by
  induction k with
  | zero => simp [diffTo]
  | succ k ih =>
    have h1 : ∀ x y : UInt8, x ||| y = 0 ↔ x = 0 ∧ y = 0 := by
      intro x y
      constructor
      · intro h
        have := congrArg UInt8.toNat h
        rw [UInt8.toNat_or] at this
        have h2 : x.toNat = 0 ∧ y.toNat = 0 := Nat.or_eq_zero_iff.1 this
        exact ⟨UInt8.toNat_inj.1 h2.1, UInt8.toNat_inj.1 h2.2⟩
      · rintro ⟨rfl, rfl⟩; rfl
    have h2 : ∀ x y : UInt8, x ^^^ y = 0 ↔ x = y := by
      intro x y
      constructor
      · intro h
        have := congrArg (· ^^^ y) h
        simpa [UInt8.xor_assoc] using this
      · rintro rfl; simp
    simp only [diffTo]
    rw [h1, ih, h2]
    constructor
    · rintro ⟨p, q⟩ i hi
      by_cases e : i = k
      · rw [e]; exact q
      · exact p i (by omega)
    · intro p
      exact ⟨fun i hi => p i (by omega), p k (by omega)⟩
end Lk
namespace Go.Proofs.YtbbfjlnkhenbiaaDoor
open Go.RowKit Lk
set_option maxHeartbeats 800000 in
set_option maxRecDepth 100000 in
theorem Same_any (va vb : Value) (a b : List UInt8) (w : World) (ha : SlB w va a) (hb : SlB w vb b) (hl : a.length ≤ 1000000) :
    Calls Tryd.prog 19 #[va, vb] w fun e w' => e = .returned (.bool (a == b)) ∧ Drawn w w' := by
  obtain ⟨A, ca, rfl, _, hlca, hcma, hra⟩ := ha
  obtain ⟨B, cb, rfl, _, hlcb, hcmb, hrb⟩ := hb
  obtain ⟨m, em⟩ : ∃ m, a.length = m := ⟨_, rfl⟩
  obtain ⟨n, en⟩ : ∃ n, b.length = n := ⟨_, rfl⟩
  have EM := Lib.hid em
  have EN := Lib.hid en
  rw [em] at hlca hl ⊢
  rw [en] at hlcb ⊢
  have HRA := Lib.hid hra
  have HRB := Lib.hid hrb
  clear hra hrb em en
  by_cases hmn : m = n
  · subst hmn
    go_enter Tryd.func19, Tryd.ntmps19
    go_wp2
    go_loopw [5] (fun i wr => ∃ k : Nat, k ≤ m ∧ i = .int .i64 k ∧ (Hid (∀ j, j < k → g8 a j = g8 b j)) ∧ Drawn w wr) (fun i _ => m - (intOf i).toNat)
    case atStart => exact ⟨0, by omega, rfl, Lib.hid (fun j hj => by omega), Drawn.refl _⟩
    case round =>
      obtain ⟨k, hk, rfl, HS, ⟨q, rfl⟩⟩ := hrel
      by_cases hlt : k < m
      · obtain ⟨ga, oa, rfl, hrda⟩ := HRA.out (by omega)
        obtain ⟨gb, ob, rfl, hrdb⟩ := HRB.out (by omega)
        have c1 : w.cell? ⟨ga, oa + k, none⟩ = some (.int .u8 (bv (g8 a k))) := hrda k (by rw [EM.out]; exact hlt)
        have c2 : w.cell? ⟨gb, ob + k, none⟩ = some (.int .u8 (bv (g8 b k))) := hrdb k (by rw [EN.out]; exact hlt)
        have HLT := Lib.hid hlt
        clear hrda hrdb
        by_cases hd : g8 a k = g8 b k
        · have HD := Lib.hid hd
          have hd' : (g8 a k != g8 b k) = false := by rw [hd]; simp
          clear hd
          go_wp2
          go_region
          go_wp2
          go_roundw
          case rel =>
            refine ⟨k + 1, HLT.out, by go_num, Lib.hid (fun j hj => ?_), (Drawn.step (Drawn.refl w) q).drew⟩
            by_cases e : j = k
            · rw [e]; exact HD.out
            · exact HS.out j (by omega)
          case measure => have : k < m := HLT.out; simp [intOf]; omega
        · have hne : (a == b) = false := by
            rw [beq_eq_false_iff_ne]; intro e; exact hd (by rw [e])
          have HNE := Lib.hid hne
          have hd' : (g8 a k != g8 b k) = true := by simpa using hd
          clear hne hd
          go_wp2
          go_region
          go_wp2
          go_ret
          exact ⟨by rw [HNE.out]; rfl, (Drawn.step (Drawn.refl w) q).drew⟩
      · have HE := Lib.hid (show a = b from same_ext (by rw [EM.out, EN.out]) (fun i hi => HS.out i (by have := EM.out; omega)))
        go_wp2
        go_ret
        exact ⟨by rw [HE.out]; simp, (Drawn.step (Drawn.refl w) q)⟩
  · have hne : (a == b) = false := by
      rw [beq_eq_false_iff_ne]; intro e; apply hmn; rw [← EM.out, ← EN.out, e]
    rw [hne]
    have hmn' : ((m : Int) != (n : Int)) = true := by simp; omega
    clear hne
    go_enter Tryd.func19, Tryd.ntmps19
    go_wp2
    go_ret
    exact ⟨rfl, Drawn.refl _⟩
set_option maxHeartbeats 800000 in
set_option maxRecDepth 100000 in
theorem Equal_any (va vb : Value) (a b : List UInt8) (w : World) (ha : SlB w va a) (hb : SlB w vb b) (hl : a.length ≤ 1000000) :
    Calls Tryd.prog 47 #[va, vb] w fun e w' => e = .returned (.bool (a == b)) ∧ Drawn w w' := by
  obtain ⟨A, ca, rfl, _, hlca, hcma, hra⟩ := ha
  obtain ⟨B, cb, rfl, _, hlcb, hcmb, hrb⟩ := hb
  obtain ⟨m, em⟩ : ∃ m, a.length = m := ⟨_, rfl⟩
  obtain ⟨n, en⟩ : ∃ n, b.length = n := ⟨_, rfl⟩
  have EM := Lib.hid em
  have EN := Lib.hid en
  rw [em] at hlca hl ⊢
  rw [en] at hlcb ⊢
  have HRA := Lib.hid hra
  have HRB := Lib.hid hrb
  clear hra hrb em en
  by_cases hmn : m = n
  · subst hmn
    go_enter Tryd.func47, Tryd.ntmps47
    go_wp2
    go_loopw [5, 14] (fun d i wr => ∃ k : Nat, k ≤ m ∧ d = .int .u8 (bv (diffTo a b k)) ∧ i = .int .i64 k ∧ Drawn w wr) (fun _ i _ => m - (intOf i).toNat)
    case atStart => exact ⟨0, by omega, rfl, rfl, Drawn.refl _⟩
    case round =>
      obtain ⟨k, hk, rfl, rfl, ⟨q, rfl⟩⟩ := hrel
      by_cases hlt : k < m
      · obtain ⟨ga, oa, rfl, hrda⟩ := HRA.out (by omega)
        obtain ⟨gb, ob, rfl, hrdb⟩ := HRB.out (by omega)
        have c1 : w.cell? ⟨ga, oa + k, none⟩ = some (.int .u8 (bv (g8 a k))) := hrda k (by rw [EM.out]; exact hlt)
        have c2 : w.cell? ⟨gb, ob + k, none⟩ = some (.int .u8 (bv (g8 b k))) := hrdb k (by rw [EN.out]; exact hlt)
        have HLT := Lib.hid hlt
        clear hrda hrdb
        go_wp2
        go_region
        go_wp2
        go_roundw
        case rel => exact ⟨k + 1, HLT.out, rfl, by go_num, (Drawn.step (Drawn.refl w) q).drew⟩
        case measure => have : k < m := HLT.out; simp [intOf]; omega
      · have HE := Lib.hid (show (diffTo a b k == 0) = (a == b) by
          have hkm : k = m := by omega
          rw [Bool.eq_iff_iff, beq_iff_eq, beq_iff_eq, diffTo_zero]
          constructor
          · intro h
            exact same_ext (by rw [EM.out, EN.out]) (fun i hi => h i (by have := EM.out; omega))
          · intro h i hi; rw [h])
        have hz : ((bv (diffTo a b k) == (0 : Int))) = (a == b) := by rw [← HE.out]; exact bv_eq _ 0
        go_wp2
        go_ret
        exact ⟨rfl, (Drawn.step (Drawn.refl w) q)⟩
  · have hne : (a == b) = false := by
      rw [beq_eq_false_iff_ne]; intro e; apply hmn; rw [← EM.out, ← EN.out, e]
    rw [hne]
    have hmn' : ((m : Int) != (n : Int)) = true := by simp; omega
    clear hne
    go_enter Tryd.func47, Tryd.ntmps47
    go_wp2
    go_ret
    exact ⟨rfl, Drawn.refl _⟩
end Go.Proofs.YtbbfjlnkhenbiaaDoor
set_option linter.unusedVariables false
set_option linter.unusedSimpArgs false
namespace Lk
/-- how many zeros fill a text of l bytes and one more up to whole blocks of n -/
def pzeros (l n : Nat) : Nat := (n - (l + 1) % n) % n
def ppad (t : List UInt8) (n : Nat) : List UInt8 := t ++ 128 :: List.replicate (pzeros t.length n) 0
theorem pzeros_lt (l n : Nat) (hn : 0 < n) : pzeros l n < n := Nat.mod_lt _ hn
theorem pad_step (l n j : Nat) (hn : 0 < n) (hj : j ≤ pzeros l n) : (l + 1 + j) % n = 0 ↔ j = pzeros l n := by
  unfold pzeros at *
  have hr : (l + 1) % n < n := Nat.mod_lt _ hn
  rw [Nat.add_mod (l + 1) j n]
  generalize (l + 1) % n = r at *
  by_cases h0 : r = 0
  · subst h0
    simp at hj ⊢
    subst hj; simp
  · rw [Nat.mod_eq_of_lt (show n - r < n by omega)] at *
    have : j % n = j := Nat.mod_eq_of_lt (by omega)
    rw [this]
    by_cases e : r + j = n
    · rw [e, Nat.mod_self]; simp; omega
    · rw [Nat.mod_eq_of_lt (by omega)]; omega
theorem ppad_len (t : List UInt8) (n : Nat) : (ppad t n).length = t.length + 1 + pzeros t.length n := by unfold ppad; simp; omega
theorem ppad_mod (t : List UInt8) (n : Nat) (hn : 0 < n) : (ppad t n).length % n = 0 := by
  rw [ppad_len]; exact (pad_step t.length n _ hn (Nat.le_refl _)).2 rfl
theorem ppad_short (t : List UInt8) (n : Nat) (h : t.length < n) : ppad t n = t ++ 128 :: List.replicate (n - 1 - t.length) 0 ∧ (ppad t n).length = n := by
  have e : pzeros t.length n = n - 1 - t.length := by
    have h1 : n - 1 - t.length ≤ pzeros t.length n := by
      unfold pzeros
      by_cases e : t.length + 1 = n
      · omega
      · rw [Nat.mod_eq_of_lt (show t.length + 1 < n by omega), Nat.mod_eq_of_lt (by omega)]; omega
    have := (pad_step t.length n (n - 1 - t.length) (by omega) h1).1 (by
      have : t.length + 1 + (n - 1 - t.length) = n := by omega
      rw [this, Nat.mod_self])
    exact this.symm
  refine ⟨by unfold ppad; rw [e], ?_⟩
  rw [ppad_len, e]; omega
theorem ppad_inj (a b : List UInt8) (n : Nat) (h : a.length = b.length) : ppad a n = ppad b n ↔ a = b := by
  constructor
  · intro e
    unfold ppad at e
    exact (List.append_inj e h).1
  · intro e; rw [e]
/-- a block doubled, before its top bit is looked at; the first k bytes -/
def dblTo (b : List UInt8) (k : Nat) : List UInt8 := (List.range b.length).map fun i => if i < k then (g8 b i <<< 1) ||| (g8 b (i + 1) >>> 7) else 0
def dturn (n : Nat) : UInt8 := if n = 8 then 0x1b else 0x87
def pdbl (b : List UInt8) : List UInt8 :=
  let o := dblTo b b.length
  if g8 b 0 &&& 0x80 != 0 then o.set (b.length - 1) (g8 o (b.length - 1) ^^^ dturn b.length) else o
theorem dblTo_len (b : List UInt8) (k : Nat) : (dblTo b k).length = b.length := by simp [dblTo]
theorem pdbl_len (b : List UInt8) : (pdbl b).length = b.length := by unfold pdbl; dsimp only; split <;> simp [dblTo_len]
theorem dblTo_zero (b : List UInt8) : dblTo b 0 = List.replicate b.length 0 := by
  apply List.ext_getElem
  · simp [dblTo]
  · intro i h1 h2; simp [dblTo]
theorem dblTo_at (b : List UInt8) (k i : Nat) (hi : i < b.length) : g8 (dblTo b k) i = if i < k then (g8 b i <<< 1) ||| (g8 b (i + 1) >>> 7) else 0 := by
  simp [dblTo, g8, hi]
theorem dblTo_set (b : List UInt8) (k : Nat) (hk : k < b.length) : (dblTo b k).set k ((g8 b k <<< 1) ||| (g8 b (k + 1) >>> 7)) = dblTo b (k + 1) := by
  apply List.ext_getElem
  · simp [dblTo]
  · intro i h1 h2
    rw [List.getElem_set]
    simp only [dblTo, List.getElem_map, List.getElem_range]
    by_cases h : k = i
    · subst h; simp
    · by_cases h' : i < k
      · rw [if_neg h, if_pos h', if_pos (by omega)]
      · rw [if_neg h, if_neg h', if_neg (by omega)]
/-- a text's end turned by a block -/
def turnEnd (t s : List UInt8) : List UInt8 := t.take (t.length - s.length) ++ pxor (t.drop (t.length - s.length)) s
theorem turnEnd_len (t s : List UInt8) (h : s.length ≤ t.length) : (turnEnd t s).length = t.length := by
  unfold turnEnd; rw [List.length_append, pxor_len, List.length_take, List.length_drop]; omega
/-- the first k bytes of the end turned -/
def turnTo (t s : List UInt8) (k : Nat) : List UInt8 := (List.range t.length).map fun i => if t.length - s.length ≤ i ∧ i < t.length - s.length + k then g8 t i ^^^ g8 s (i - (t.length - s.length)) else g8 t i
theorem turnTo_len (t s : List UInt8) (k : Nat) : (turnTo t s k).length = t.length := by simp [turnTo]
theorem turnTo_zero (t s : List UInt8) : turnTo t s 0 = t := by
  apply List.ext_getElem
  · simp [turnTo]
  · intro i h1 h2
    simp only [turnTo, List.getElem_map, List.getElem_range]
    rw [if_neg (by omega)]
    simp [g8, h2]
theorem turnTo_at (t s : List UInt8) (k i : Nat) (hi : i < t.length) : g8 (turnTo t s k) i = if t.length - s.length ≤ i ∧ i < t.length - s.length + k then g8 t i ^^^ g8 s (i - (t.length - s.length)) else g8 t i := by
  simp only [g8, turnTo, List.getD_eq_getElem?_getD, List.getElem?_map, List.getElem?_range hi, Option.map_some, Option.getD_some]
theorem turnTo_set (t s : List UInt8) (k : Nat) (hk : k < s.length) (hs : s.length ≤ t.length) : (turnTo t s k).set (t.length - s.length + k) (g8 t (t.length - s.length + k) ^^^ g8 s k) = turnTo t s (k + 1) := by
  apply List.ext_getElem
  · simp [turnTo]
  · intro i h1 h2
    rw [List.getElem_set]
    simp only [turnTo, List.getElem_map, List.getElem_range]
    by_cases h : t.length - s.length + k = i
    · subst h
      rw [if_pos rfl, if_pos (by omega)]
      congr 2; omega
    · rw [if_neg h]
      by_cases h' : t.length - s.length ≤ i ∧ i < t.length - s.length + k
      · rw [if_pos h', if_pos (by omega)]
      · rw [if_neg h', if_neg (by omega)]
theorem g8_lt {l : List UInt8} {i : Nat} (h : i < l.length) : g8 l i = l[i] := by simp [g8, h]
theorem pxor_at (a b : List UInt8) (i : Nat) (hi : i < a.length) : g8 (pxor a b) i = g8 a i ^^^ g8 b i := by
  simp only [g8, pxor, xorTo, List.getD_eq_getElem?_getD, List.getElem?_map, List.getElem?_range hi, Option.map_some, Option.getD_some, if_pos hi]
theorem g8_drop (l : List UInt8) (k i : Nat) : g8 (l.drop k) i = g8 l (k + i) := by simp [g8]
theorem g8_take (l : List UInt8) (k i : Nat) (h : i < k) : g8 (l.take k) i = g8 l i := by simp [g8, List.getElem?_take, h]
theorem g8_right (l m : List UInt8) (i : Nat) (h : l.length ≤ i) : g8 (l ++ m) i = g8 m (i - l.length) := by simp [g8, List.getElem?_append_right h]
theorem turnTo_all (t s : List UInt8) (hs : s.length ≤ t.length) : turnTo t s s.length = turnEnd t s := by
  refine same_ext (by rw [turnTo_len, turnEnd_len t s hs]) fun i hi => ?_
  rw [turnTo_len] at hi
  rw [turnTo_at _ _ _ _ hi]
  unfold turnEnd
  by_cases h : t.length - s.length ≤ i
  · rw [if_pos (by omega), g8_right _ _ _ (by simp; omega), pxor_at _ _ _ (by simp; omega), g8_drop]
    simp only [List.length_take]
    have e : min (t.length - s.length) t.length = t.length - s.length := by omega
    rw [e]
    congr 2; omega
  · rw [if_neg (by omega), g8_app _ _ _ (by simp; omega), g8_take _ _ _ (by omega)]
def needPad (len n : Nat) : Bool := len == 0 || len % n != 0
/-- what is chained of a text, l being what zeros are enciphered to -/
def pfull (n : Nat) (text l : List UInt8) : List UInt8 :=
  bif needPad text.length n then turnEnd (ppad text n) (pdbl (pdbl l)) else turnEnd text (pdbl l)
def pcmac (kind : Nat) (key text : List UInt8) : List UInt8 :=
  let full := pfull (psize kind) text (pdo kind key (List.replicate (psize kind) 0) false)
  pchain kind key full (full.length / psize kind)
def pretail (key text : List UInt8) : List UInt8 :=
  ptriple (key.take 8) (ptriple (key.drop 8) (pchain 2 (key.take 8) (ppad text 8) ((ppad text 8).length / 8)) true) false
theorem whole_blocks (text : List UInt8) (n : Nat) (hn : 0 < n) (h : needPad text.length n = false) : n ≤ text.length ∧ text.length % n = 0 := by
  unfold needPad at h
  simp only [Bool.or_eq_false_iff, beq_eq_false_iff_ne, bne_eq_false_iff_eq] at h
  refine ⟨?_, h.2⟩
  have := Nat.div_add_mod text.length n
  have h1 : 1 ≤ text.length / n := by
    rcases Nat.eq_zero_or_pos (text.length / n) with e | e
    · rw [e, h.2] at this; simp at this; omega
    · exact e
  have := Nat.mul_le_mul_left n h1
  omega
theorem pfull_len (n : Nat) (text l : List UInt8) (hn : 0 < n) (hl : l.length = n) : n ≤ (pfull n text l).length ∧ (pfull n text l).length % n = 0 ∧ (pfull n text l).length ≤ text.length + n := by
  unfold pfull
  cases h : needPad text.length n with
  | true =>
    have hm := ppad_mod text n hn
    have hp := ppad_len text n
    have hz := pzeros_lt text.length n hn
    have hge : n ≤ (ppad text n).length := by
      have := Nat.div_add_mod (ppad text n).length n
      have h1 : 1 ≤ (ppad text n).length / n := by
        rcases Nat.eq_zero_or_pos ((ppad text n).length / n) with e | e
        · rw [e, hm] at this; simp at this; omega
        · exact e
      have := Nat.mul_le_mul_left n h1
      omega
    simp only [cond_true]
    rw [turnEnd_len _ _ (by rw [pdbl_len, pdbl_len, hl]; exact hge)]
    exact ⟨hge, hm, by omega⟩
  | false =>
    have hw := whole_blocks text n hn h
    simp only [cond_false]
    rw [turnEnd_len _ _ (by rw [pdbl_len, hl]; exact hw.1)]
    exact ⟨hw.1, hw.2, by omega⟩
theorem g8_over (l : List UInt8) (i : Nat) (h : l.length ≤ i) : g8 l i = 0 := by simp [g8, h]
theorem zero_shr7 : (0 : UInt8) >>> 7 = 0 := by decide
theorem or_zero8 (x : UInt8) : x ||| 0 = x := by
  apply UInt8.toNat_inj.1; simp
end Lk
set_option linter.unusedVariables false
set_option linter.unusedSimpArgs false
namespace Lk
open Go Go.RowKit
section
variable {P : Program} {ops : Array Oper} {rest : List Oper} {o : Oper} {a : Act} {w : World} {Q : Exit → Act → World → Prop}
theorem run_storeVar_one (w : World) (g k : Nat) (ty : TypeId) (v u : Value) (hc : w.cell? ⟨g, k, none⟩ = some v) (hf : w.frozen? ⟨g, k, none⟩ = false) (h1 : u.oneCell' = true) (hi : (P.info? ty).map (·.size) = some 1) :
    (storeVar ty ⟨g, k, none⟩ u).run P w = .ok () (w.setCell ⟨g, k, none⟩ u) := by
  have e : u.cells = #[u] := by cases u <;> first | rfl | (simp [Value.oneCell'] at h1)
  cases hq : P.info? ty with
  | none => simp [hq] at hi
  | some i =>
    have hs : i.size = 1 := by simpa [hq] using hi
    have hst := run_store P w ⟨g, k, none⟩ u .plain h1
    rw [hc, hf] at hst
    simp [storeVar, Go.sizeOf, typeInfo, hq, e, hs, storeCells, Addr.add_lit, hst]
/-- a byte stored into a block that is known -/
theorem store_b (hgd : o.guard = none) (ty : TypeId) (x y : Operand) (ho : o.op = .store ty x y) (g k T : Nat) (l : List UInt8) (c : UInt8) (hx : a.eval x = .pointer (some ⟨g, k, none⟩)) (z : Int) (hy : a.eval y = .int .u8 z) (hz : z = bv c) (hB : Blk w g T l) (hk : k < l.length)
    (hi : (P.info? ty).map (·.size) = some 1)
    (h : ∀ w1, Blk w1 g T (l.set k c) → w.grownBy w1 (some g) → w1.heap.size = w.heap.size → wpList P ops Q rest (a.put o.dst undef) w1) : wpList P ops Q (o :: rest) a w :=
  wpList_plain hgd fun _ hK => by
    subst hz
    unfold Oper.wp execOp
    simp only [ho, hx, hy, Instr.storeAt, Instr.sureAddr, Sem.run_bind, Sem.run_pure, Result.andThen_ok, run_storeVar_one w g k ty _ (.int .u8 (bv c)) (hB.cell k hk) (hB.free k) rfl hi]
    exact hK _ _ (h _ (hB.set k c) (grown_set (grown_refl _ _) _ _) (World.size_setCell ..))
end
theorem one_slB (w : World) (x : UInt8) : SlB (w.alloc (.cells #[.int .u8 (bv x)] u8t)) (.slice (some ⟨w.heap.size, 0, none⟩) 1 1) [x] :=
  New.slB (base := 0) (l := [x]) ⟨w.heap.size, u8t, rfl, Nat.zero_le _, heap_alloc_new w _⟩ (by show 1 ≤ maxLen; decide)
theorem below_own {w w1 w2 : World} {B : Nat} {row : Option Nat} (h : Below B w w1) (hB : B ≤ w1.heap.size) (hG : w1.grownBy w2 row) (hg : ∀ k, row = some k → B ≤ k) : Below B w w2 :=
  ⟨hG.os.trans h.os, hG.tape.trans h.tape, hG.output.trans h.output, Nat.le_trans h.size hG.size, fun i hi => by
    rw [hG.block i (by omega) (by intro e; have := hg i e.symm; omega)]; exact h.block i hi⟩
def lenOf : Value → Nat
  | .slice _ n _ => n
  | _ => 0
theorem Own.len {w : World} {base : Nat} {v : Value} {l : List UInt8} (h : Own w base v l) : lenOf v = l.length := by
  obtain ⟨A, c, rfl, _⟩ := h.slB
  rfl
end Lk
namespace Go.Proofs.YtbbfjlnkhenbiaaDoor
open Go.RowKit Lk
attribute [local go_sem] bv_top
end Go.Proofs.YtbbfjlnkhenbiaaDoor
