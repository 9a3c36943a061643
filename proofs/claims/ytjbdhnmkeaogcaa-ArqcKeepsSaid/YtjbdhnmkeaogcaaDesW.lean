/- TDES: a block. -/
import Derived.Test.YtjbdhnmkeaogcaaDesP
import Derived.Test.YtjbdhnmkeaogcaaQt
set_option linter.unusedVariables false
set_option linter.unusedSimpArgs false
namespace Lk
open Go Go.RowKit
section
variable {P : Program} {ops : Array Oper} {C : World → Prop} {Q : Act → Prop} {a : Act} {o : Oper} {rest : List Oper}
/-- an operation that yields the same value in whatever world, and leaves it as it is -/
theorem quiet_val (hw : Region.wanted o (yielded ops a.tmps) = true) (u : Value) (h : ∀ w, (execOp a.eval o).run P w = .ok (.value u) w) (hk : wpQuiet P ops C Q rest (a.put o.dst u)) : wpQuiet P ops C Q (o :: rest) a :=
  wpQuiet_step fun K hK => by
    rw [if_pos hw]
    exact ⟨u, fun w _ => by unfold Oper.quietAt; rw [h w]; exact ⟨rfl, rfl⟩, hK _ hk⟩
theorem quiet_enter (hw : Region.wanted o (yielded ops a.tmps) = true) (f : FuncId) (args : Array Value) (v : Value) (h : ∀ w, (execOp a.eval o).run P w = .ok (.enter f args) w)
    (hc : ∀ w, C w → Calls P f args w fun e w' => e = .returned v ∧ C w') (hk : wpQuiet P ops C Q rest (a.put o.dst v)) : wpQuiet P ops C Q (o :: rest) a :=
  wpQuiet_step fun K hK => by
    rw [if_pos hw]
    exact ⟨v, fun w hw => by unfold Oper.quietAt; rw [h w]; exact ⟨rfl, hc w hw⟩, hK _ hk⟩
theorem quiet_load (hw : Region.wanted o (yielded ops a.tmps) = true) (ty : TypeId) (x : Operand) (ho : o.op = .load ty x) (g k n e : Nat) (l : List UInt8) (hx : a.eval x = .pointer (some ⟨g, k, none⟩)) (hB : ∀ w, C w → Rd w g k l) (hl : l.length = n)
    (hu : P.underlying ty = some (.array n e)) (hi : (P.info? ty).map (·.size) = some n) (hk : wpQuiet P ops C Q rest (a.put o.dst (.agg (Bs l)))) : wpQuiet P ops C Q (o :: rest) a :=
  wpQuiet_step fun K hK => by
    rw [if_pos hw]
    refine ⟨.agg (Bs l), fun w hw => ?_, hK _ hk⟩
    unfold Oper.quietAt execOp
    simp only [ho, hx, Instr.loadAt, Instr.sureAddr, Sem.run_bind, Sem.run_pure, Result.andThen_ok, run_loadVar_mid w g k ty (Bl l) (.array n e) (rangeAt_rd (hB w hw)) hu rfl (by rw [Bl_len, hl, hi])]
    exact ⟨rfl, rfl⟩
end
theorem below_drew (w : World) : Below w.heap.size w w.drew := ⟨rfl, rfl, rfl, Nat.le_refl _, fun _ _ => rfl⟩
/-- TDES of a block, the three parts being these -/
def triple3 (k0 k1 k2 b : List UInt8) (back : Bool) : List UInt8 := dblock k2 (dblock k1 (dblock k0 b back) (!back)) back
def ptriple (key b : List UInt8) (back : Bool) : List UInt8 :=
  if key.length = 8 then dblock (part8 (pparts key) 0) b back
  else bif back then triple3 (part8 (pparts key) 16) (part8 (pparts key) 8) (part8 (pparts key) 0) b true
  else triple3 (part8 (pparts key) 0) (part8 (pparts key) 8) (part8 (pparts key) 16) b false
theorem Row.below {w w1 : World} {g T n B : Nat} (h : Row w g T n) (hG : Below B w w1) (hg : g < B) : Row w1 g T n := by
  obtain ⟨old, h1, h2⟩ := h
  exact ⟨old, by rw [hG.block g hg]; exact h1, h2⟩
theorem split24 (p : List UInt8) (h : p.length = 24) : p = part8 p 0 ++ (part8 p 8 ++ (part8 p 16 ++ [])) := by
  unfold part8
  have e : List.take 8 (List.drop 16 p) = List.drop 16 p := List.take_of_length_le (by simp; omega)
  have e2 : List.drop 16 p = List.drop 8 (List.drop 8 p) := by rw [List.drop_drop]
  rw [e, e2, List.append_nil, List.drop_zero, List.take_append_drop, List.take_append_drop]
theorem sub3 (x y z : List UInt8) (hx : x.length = 8) (hy : y.length = 8) (hz : z.length = 8) : part8 (x ++ (y ++ (z ++ []))) 0 = x ∧ part8 (x ++ (y ++ (z ++ []))) 8 = y ∧ part8 (x ++ (y ++ (z ++ []))) 16 = z := by
  refine ⟨?_, ?_, ?_⟩
  · rw [part8_0, List.take_left' hx]
  · unfold part8; rw [List.drop_left' hx, List.take_left' hy]
  · unfold part8
    have : (16 : Nat) = 8 + 8 := rfl
    rw [this, ← List.drop_drop, List.drop_left' hx, List.drop_left' hy, List.append_nil, List.take_of_length_le (by omega)]
theorem swap24 (p : List UInt8) (h : p.length = 24) : putAt (putAt p 0 (part8 p 16)) 16 (part8 p 0) = part8 p 16 ++ (part8 p 8 ++ (part8 p 0 ++ [])) := by
  have h0 := part8_len p 0 (by omega)
  have h8 := part8_len p 8 (by omega)
  have h16 := part8_len p 16 (by omega)
  obtain ⟨x, ex⟩ : ∃ x, part8 p 0 = x := ⟨_, rfl⟩
  obtain ⟨y, ey⟩ : ∃ y, part8 p 8 = y := ⟨_, rfl⟩
  obtain ⟨z, ez⟩ : ∃ z, part8 p 16 = z := ⟨_, rfl⟩
  have e := split24 p h
  rw [ex, ey, ez] at e
  rw [ex] at h0; rw [ey] at h8; rw [ez] at h16
  rw [ex, ey, ez, e, put0 _ h16 _ h0, put16 _ h0 _ _ h16 h8 _ h16]
theorem dblock_len (k b : List UInt8) (back : Bool) : (dblock k b back).length = 8 := pbytes_len _
end Lk
namespace Go.Proofs.Ytjbdhnmkeaogcaa
open Go.RowKit Lk
theorem block_in (key b : List UInt8) (back : Bool) (hk : key.length = 8) (hb : b.length = 8) (N : Nat) (W : World) : ∀ w, Below N W w → N ≤ W.heap.size → Calls Try.prog 43 #[.agg (Bs key), .agg (Bs b), .bool back] w fun e w' => e = .returned (.agg (Bs (dblock key b back))) ∧ Below N W w' :=
  fun w hB hN => (Block_any key b back hk hb w).mono fun _ _ ⟨h1, h2⟩ => ⟨h1, below_more hB h2 (Nat.le_trans hN hB.size)⟩
set_option maxHeartbeats 1600000 in
set_option maxRecDepth 100000 in
theorem Triple_any (v : Value) (key b : List UInt8) (back : Bool) (w : World) (hs : SlB w v key) (hb : b.length = 8) : Calls Try.prog 33 #[v, .agg (Bs b), .bool back] w fun e w' =>
    e = .returned (bif okParts key then .tuple #[.agg (Bs (ptriple key b back)), .nilIface] else .tuple #[.agg (Bs (List.replicate 8 0)), .iface 61 (.int .i64 2)]) ∧ Below w.heap.size w w' := by
  obtain ⟨n, hn⟩ : ∃ n, w.heap.size = n := ⟨_, rfl⟩
  have Hn := Lib.hid hn
  have HSL := Lib.hid hs
  have HNB := Lib.hid hb
  have hP := fun w h => parts_any v key w h
  obtain ⟨ok, eok⟩ : ∃ ok, okParts key = ok := ⟨_, rfl⟩
  obtain ⟨p, ep⟩ : ∃ p, pparts key = p := ⟨_, rfl⟩
  have hpl := pparts_len key
  simp only [eok, ep] at hP
  rw [ep] at hpl
  have HP := Lib.hid hP
  have HPL := Lib.hid hpl
  have EP := Lib.hid ep
  have EOK := Lib.hid eok
  obtain ⟨A, c, rfl, hA, hlc, hcm, hr⟩ := hs
  rw [eok]
  clear hP eok ep hr hpl hb
  cases ok
  · go_enter Try.func33, Try.ntmps33
    go_wp2_with (first
      | ((with_reducible show wpList _ _ _ _ _ w); refine box_blk (w := w) rfl 23 _ rfl b rfl ?_; intro w0 hB0 hG0 hs0)
      | ((with_reducible show wpList _ _ _ _ _ w0); refine alloc_row (w := w0) rfl 23 rfl (.agg (Bs (List.replicate 8 0))) 8 (fun _ => by kernel_rfl) rfl ?_; intro w1 hR1 _ hG1 hs1)
      | (go_at_call 42; refine (HP.out _ ((HSL.out.old hG0 (Classical.em _)).old hG1 (Classical.em _))).mono ?_; rintro e w2 ⟨rfl, hG2⟩)
      | ((with_reducible show wpList _ _ _ _ _ w2); refine alloc_row (w := w2) rfl 80 rfl (.agg (Bs (List.replicate 24 0))) 24 (fun _ => by kernel_rfl) rfl ?_; intro w3 hR3 _ hG3 hs3)
      | ((with_reducible show wpList _ _ _ _ _ w3); refine store_blk (w := w3) rfl 80 _ _ rfl w2.heap.size 80 24 p rfl rfl hR3 HPL.out (by kernel_rfl) ?_; intro w4 hB4 hG4 hs4)
      | (refine wpList_buildTo rfl 23 _ rfl (some 18) rfl (Bs (List.replicate 8 0)) (by kernel_rfl) ?_)
      | ((with_reducible show wpList _ _ _ _ _ w4); refine store_blk (w := w4) rfl 23 _ _ rfl (n + 1) 23 8 (List.replicate 8 0) rfl rfl (by
          have e0 : w0.heap.size = n + 1 := by omega
          have h2s := hG2.size
          rw [e0] at hR1
          exact ((hR1.below hG2 (by omega)).old hG3 (by simp)).old hG4 (by simp; omega)) rfl (by kernel_rfl) ?_; intro w5 hB5 hG5 hs5))
    have e0 : w0.heap.size = n + 1 := by omega
    have h2s := hG2.size
    have hRn : Row w4 (n + 1) 23 8 := by rw [e0] at hR1; exact ((hR1.below hG2 (by omega)).old hG3 (by simp)).old hG4 (by simp; omega)
    have hBb : Blk w4 n 23 b := by rw [hn] at hB0; exact (((hB0.old hG1 (by simp)).below hG2 (by omega)).old hG3 (by simp)).old hG4 (by simp; omega)
    have hL4 : Below n w w4 := below_new (below_none (below_more (below_none (below_none (Below.refl n w) (by omega) hG0) (by omega) hG1) hG2 (by omega)) (by omega) hG3) (by omega) hG4 (by omega)
    refine bodyPost_ret (results_blk rfl _ _ (n + 1) 23 8 5 (List.replicate 8 0) rfl hB5 rfl (by kernel_rfl) (by kernel_rfl)) rfl ⟨rfl, ?_⟩
    rw [Hn.out]
    exact below_new hL4 (by omega) hG5 (by omega)
  by_cases h8 : key.length = 8
  · have e8 : ptriple key b back = dblock (part8 p 0) b back := by unfold ptriple; rw [if_pos h8, EP.out]
    have H8 := Lib.hid h8
    have HK := Lib.hid (part8_len p 0 (by rw [HPL.out]; omega))
    have i8 : (key.length : Int) = 8 := by omega
    rw [e8]
    clear e8 h8
    go_enter Try.func33, Try.ntmps33
    go_wp2_with (first
      | ((with_reducible show wpList _ _ _ _ _ w); refine box_blk (w := w) rfl 23 _ rfl b rfl ?_; intro w0 hB0 hG0 hs0)
      | ((with_reducible show wpList _ _ _ _ _ w0); refine alloc_row (w := w0) rfl 23 rfl (.agg (Bs (List.replicate 8 0))) 8 (fun _ => by kernel_rfl) rfl ?_; intro w1 hR1 _ hG1 hs1)
      | (go_at_call 42; refine (HP.out _ ((HSL.out.old hG0 (Classical.em _)).old hG1 (Classical.em _))).mono ?_; rintro e w2 ⟨rfl, hG2⟩)
      | ((with_reducible show wpList _ _ _ _ _ w2); refine alloc_row (w := w2) rfl 80 rfl (.agg (Bs (List.replicate 24 0))) 24 (fun _ => by kernel_rfl) rfl ?_; intro w3 hR3 _ hG3 hs3)
      | ((with_reducible show wpList _ _ _ _ _ w3); refine store_blk (w := w3) rfl 80 _ _ rfl w2.heap.size 80 24 p rfl rfl hR3 HPL.out (by kernel_rfl) ?_; intro w4 hB4 hG4 hs4)
      | ((with_reducible show wpList _ _ _ _ _ w4); refine load_rd (w := w4) rfl 23 _ rfl w2.heap.size 0 8 5 (part8 p 0) rfl (hB4.rd 0 8 (by rw [HPL.out]; omega)) HK.out (by kernel_rfl) (by kernel_rfl) ?_)
      | ((with_reducible show wpList _ _ _ _ _ w4); refine load_blk (w := w4) rfl 23 _ rfl n 23 8 5 b rfl (by
          have h2s := hG2.size
          rw [hn] at hB0
          exact (((hB0.old hG1 (by simp)).below hG2 (by omega)).old hG3 (by simp)).old hG4 (by simp; omega)) HNB.out (by kernel_rfl) (by kernel_rfl) ?_)
      | (go_at_call 43; refine (Block_any (part8 p 0) b back HK.out HNB.out _).mono ?_; rintro e w5 ⟨rfl, hG5⟩)
      | ((with_reducible show wpList _ _ _ _ _ w5); refine store_blk (w := w5) rfl 23 _ _ rfl (n + 1) 23 8 (dblock (part8 p 0) b back) rfl rfl (by
          have e0 : w0.heap.size = n + 1 := by omega
          have h2s := hG2.size
          rw [e0] at hR1
          exact (((hR1.below hG2 (by omega)).old hG3 (by simp)).old hG4 (by simp; omega)).below hG5 (by omega)) (dblock_len _ _ _) (by kernel_rfl) ?_; intro w6 hB6 hG6 hs6))
    have e0 : w0.heap.size = n + 1 := by omega
    have h2s := hG2.size
    have hRn : Row w4 (n + 1) 23 8 := by rw [e0] at hR1; exact ((hR1.below hG2 (by omega)).old hG3 (by simp)).old hG4 (by simp; omega)
    have hBb : Blk w4 n 23 b := by rw [hn] at hB0; exact (((hB0.old hG1 (by simp)).below hG2 (by omega)).old hG3 (by simp)).old hG4 (by simp; omega)
    have hL4 : Below n w w4 := below_new (below_none (below_more (below_none (below_none (Below.refl n w) (by omega) hG0) (by omega) hG1) hG2 (by omega)) (by omega) hG3) (by omega) hG4 (by omega)
    refine bodyPost_ret (results_blk rfl _ _ (n + 1) 23 8 5 (dblock (part8 p 0) b back) rfl hB6 (dblock_len _ _ _) (by kernel_rfl) (by kernel_rfl)) rfl ⟨rfl, ?_⟩
    rw [Hn.out]
    have h5s := hG5.size
    exact below_new (below_more hL4 hG5 (by omega)) (by omega) hG6 (by omega)
  have hlen : ¬ key.length = 8 := h8
  have HT : Hid (ptriple key b false = triple3 (part8 p 0) (part8 p 8) (part8 p 16) b false) := Lib.hid (by unfold ptriple; rw [if_neg h8, EP.out]; rfl)
  have HT' : Hid (ptriple key b true = triple3 (part8 p 16) (part8 p 8) (part8 p 0) b true) := Lib.hid (by unfold ptriple; rw [if_neg h8, EP.out]; rfl)
  have i8 : ¬ (key.length : Int) = 8 := by omega
  clear h8 hlen
  cases back
  · go_enter Try.func33, Try.ntmps33
    go_wp2_with (first
      | ((with_reducible show wpList _ _ _ _ _ w); refine box_blk (w := w) rfl 23 _ rfl b rfl ?_; intro w0 hB0 hG0 hs0)
      | ((with_reducible show wpList _ _ _ _ _ w0); refine alloc_row (w := w0) rfl 23 rfl (.agg (Bs (List.replicate 8 0))) 8 (fun _ => by kernel_rfl) rfl ?_; intro w1 hR1 _ hG1 hs1)
      | (go_at_call 42; refine (HP.out _ ((HSL.out.old hG0 (Classical.em _)).old hG1 (Classical.em _))).mono ?_; rintro e w2 ⟨rfl, hG2⟩)
      | ((with_reducible show wpList _ _ _ _ _ w2); refine alloc_row (w := w2) rfl 80 rfl (.agg (Bs (List.replicate 24 0))) 24 (fun _ => by kernel_rfl) rfl ?_; intro w3 hR3 _ hG3 hs3)
      | ((with_reducible show wpList _ _ _ _ _ w3); refine store_blk (w := w3) rfl 80 _ _ rfl w2.heap.size 80 24 p rfl rfl hR3 HPL.out (by kernel_rfl) ?_; intro w4 hB4 hG4 hs4))
    have e0 : w0.heap.size = n + 1 := by omega
    have h2s := hG2.size
    have hRn : Row w4 (n + 1) 23 8 := by rw [e0] at hR1; exact ((hR1.below hG2 (by omega)).old hG3 (by simp)).old hG4 (by simp; omega)
    have hBb : Blk w4 n 23 b := by rw [hn] at hB0; exact (((hB0.old hG1 (by simp)).below hG2 (by omega)).old hG3 (by simp)).old hG4 (by simp; omega)
    have hL4 : Below n w w4 := below_new (below_none (below_more (below_none (below_none (Below.refl n w) (by omega) hG0) (by omega) hG1) hG2 (by omega)) (by omega) hG3) (by omega) hG4 (by omega)
    obtain ⟨G, eG⟩ : ∃ G, w2.heap.size = G := ⟨_, rfl⟩
    have hGn : n + 2 ≤ G := by omega
    have hBp : Blk w4 G 80 p := by rw [eG] at hB4; exact hB4
    have hsz : G + 1 ≤ w4.heap.size := by omega
    rw [eG]
    clear hB0 hG0 hs0 hR1 hG1 hs1 hG2 hR3 hG3 hs3 hB4 hG4 hs4 e0 h2s eG hn
    have hql := HPL.out
    have hBq := hBp
    have hBb' := hBb
    have hRn' := hRn
    have HK0 := Lib.hid (part8_len p 0 (by rw [hql]; omega))
    have HK1 := Lib.hid (part8_len p 8 (by rw [hql]; omega))
    have HK2 := Lib.hid (part8_len p 16 (by rw [hql]; omega))
    have hNW : n + 2 ≤ w4.heap.size := by omega
    obtain ⟨N, eN⟩ : ∃ N, w4.heap.size = N := ⟨_, rfl⟩
    have hNle : N ≤ w4.heap.size := by omega
    have hNG : G < N := by omega
    have hdr : Below N w4 w4.drew := by rw [← eN]; exact below_drew _
    refine wp_quiet_tail (fun w' => Below N w4 w') 14 (by kernel_rfl) (by kernel_rfl) hdr ?_
    simp only [List.take_succ_cons, List.take_zero, List.drop_succ_cons, List.drop_zero]
    refine quiet_val (by kernel_rfl) (.pointer (some ⟨G, 16, none⟩)) (fun w => by kernel_rfl) ?_
    refine quiet_load (by kernel_rfl) 23 _ rfl G 16 8 5 (part8 p 16) (by kernel_rfl) (fun w' hw' => (hBq.below hw' hNG).rd 16 8 (by rw [hql]; omega)) HK2.out (by kernel_rfl) (by kernel_rfl) ?_
    refine quiet_val (by kernel_rfl) (.pointer (some ⟨G, 8, none⟩)) (fun w => by kernel_rfl) ?_
    refine quiet_load (by kernel_rfl) 23 _ rfl G 8 8 5 (part8 p 8) (by kernel_rfl) (fun w' hw' => (hBq.below hw' hNG).rd 8 8 (by rw [hql]; omega)) HK1.out (by kernel_rfl) (by kernel_rfl) ?_
    refine quiet_val (by kernel_rfl) (.pointer (some ⟨G, 0, none⟩)) (fun w => by kernel_rfl) ?_
    refine quiet_load (by kernel_rfl) 23 _ rfl G 0 8 5 (part8 p 0) (by kernel_rfl) (fun w' hw' => (hBq.below hw' hNG).rd 0 8 (by rw [hql]; omega)) HK0.out (by kernel_rfl) (by kernel_rfl) ?_
    refine quiet_load (by kernel_rfl) 23 _ rfl n 0 8 5 b (by kernel_rfl) (fun w' hw' => (by
        have h := (hBb'.below hw' (by omega)).rd 0 8 (by rw [HNB.out]; omega)
        rw [List.drop_zero, List.take_of_length_le (by rw [HNB.out]; omega)] at h
        exact h)) HNB.out (by kernel_rfl) (by kernel_rfl) ?_
    refine quiet_val (by kernel_rfl) (.bool false) (fun w => by kernel_rfl) ?_
    refine quiet_enter (by kernel_rfl) 43 #[.agg (Bs (part8 p 0)), .agg (Bs b), .bool false] (.agg (Bs (dblock (part8 p 0) b false))) (fun w => by kernel_rfl) (fun w' hw' => block_in _ _ false HK0.out HNB.out N w4 w' hw' hNle) ?_
    refine quiet_val (by kernel_rfl) (.bool false) (fun w => by kernel_rfl) ?_
    refine quiet_val (by kernel_rfl) (.bool true) (fun w => by kernel_rfl) ?_
    refine quiet_enter (by kernel_rfl) 43 #[.agg (Bs (part8 p 8)), .agg (Bs (dblock (part8 p 0) b false)), .bool true] (.agg (Bs (dblock (part8 p 8) (dblock (part8 p 0) b false) true))) (fun w => by kernel_rfl) (fun w' hw' => block_in _ _ true HK1.out (dblock_len _ _ _) N w4 w' hw' hNle) ?_
    refine quiet_val (by kernel_rfl) (.bool false) (fun w => by kernel_rfl) ?_
    refine quiet_enter (by kernel_rfl) 43 #[.agg (Bs (part8 p 16)), .agg (Bs (dblock (part8 p 8) (dblock (part8 p 0) b false) true)), .bool false] (.agg (Bs (triple3 (part8 p 0) (part8 p 8) (part8 p 16) b false))) (fun w => by kernel_rfl) (fun w' hw' => block_in _ _ false HK2.out (dblock_len _ _ _) N w4 w' hw' hNle) ?_
    refine wpQuiet_nil ?_
    intro w5 hG5
    simp only [Act.put, List.setIfInBounds_toArray, List.set_cons_succ, List.set_cons_zero]
    go_wp2_with (refine store_blk (w := w5) rfl 23 _ _ rfl (n + 1) 23 8 (triple3 (part8 p 0) (part8 p 8) (part8 p 16) b false) rfl rfl (hRn'.below hG5 (by omega)) (dblock_len _ _ _) (by kernel_rfl) ?_; intro w6 hB6 hG6 hs6)
    refine bodyPost_ret (results_blk rfl _ _ (n + 1) 23 8 5 (triple3 (part8 p 0) (part8 p 8) (part8 p 16) b false) rfl hB6 (dblock_len _ _ _) (by kernel_rfl) (by kernel_rfl)) rfl ⟨by rw [HT.out]; rfl, ?_⟩
    rw [Hn.out]
    have h5s := hG5.size
    exact below_new (below_more hL4 hG5 (by omega)) (by omega) hG6 (by omega)
  · have HP8 := Lib.hid (show ∀ k, k + 8 ≤ 24 → (part8 p k).length = 8 from fun k hk => part8_len p k (by rw [HPL.out]; omega))
    go_enter Try.func33, Try.ntmps33
    go_wp2_with (first
      | ((with_reducible show wpList _ _ _ _ _ w); refine box_blk (w := w) rfl 23 _ rfl b rfl ?_; intro w0 hB0 hG0 hs0)
      | ((with_reducible show wpList _ _ _ _ _ w0); refine alloc_row (w := w0) rfl 23 rfl (.agg (Bs (List.replicate 8 0))) 8 (fun _ => by kernel_rfl) rfl ?_; intro w1 hR1 _ hG1 hs1)
      | (go_at_call 42; refine (HP.out _ ((HSL.out.old hG0 (Classical.em _)).old hG1 (Classical.em _))).mono ?_; rintro e w2 ⟨rfl, hG2⟩)
      | ((with_reducible show wpList _ _ _ _ _ w2); refine alloc_row (w := w2) rfl 80 rfl (.agg (Bs (List.replicate 24 0))) 24 (fun _ => by kernel_rfl) rfl ?_; intro w3 hR3 _ hG3 hs3)
      | ((with_reducible show wpList _ _ _ _ _ w3); refine store_blk (w := w3) rfl 80 _ _ rfl w2.heap.size 80 24 p rfl rfl hR3 HPL.out (by kernel_rfl) ?_; intro w4 hB4 hG4 hs4)
      | ((with_reducible show wpList _ _ _ _ _ w4); refine load_rd (w := w4) rfl 23 _ rfl w2.heap.size 16 8 5 (part8 p 16) rfl (hB4.rd 16 8 (by rw [HPL.out]; omega)) (HP8.out 16 (by omega)) (by kernel_rfl) (by kernel_rfl) ?_)
      | ((with_reducible show wpList _ _ _ _ _ w4); refine load_rd (w := w4) rfl 23 _ rfl w2.heap.size 0 8 5 (part8 p 0) rfl (hB4.rd 0 8 (by rw [HPL.out]; omega)) (HP8.out 0 (by omega)) (by kernel_rfl) (by kernel_rfl) ?_)
      | ((with_reducible show wpList _ _ _ _ _ w4); refine store_mid (w := w4) rfl 23 _ _ rfl w2.heap.size 0 80 8 p (part8 p 16) rfl rfl hB4 (HP8.out 16 (by omega)) (by rw [HPL.out]; omega) (by kernel_rfl) ?_; intro w4a hB4a hG4a hs4a)
      | ((with_reducible show wpList _ _ _ _ _ w4a); refine store_mid (w := w4a) rfl 23 _ _ rfl w2.heap.size 16 80 8 (putAt p 0 (part8 p 16)) (part8 p 0) rfl rfl hB4a (HP8.out 0 (by omega)) (by rw [putAt_len, HPL.out]; omega) (by kernel_rfl) ?_; intro w4b hB4b hG4b hs4b))
    have e0 : w0.heap.size = n + 1 := by omega
    have h2s := hG2.size
    have hRn : Row w4 (n + 1) 23 8 := by rw [e0] at hR1; exact ((hR1.below hG2 (by omega)).old hG3 (by simp)).old hG4 (by simp; omega)
    have hBb : Blk w4 n 23 b := by rw [hn] at hB0; exact (((hB0.old hG1 (by simp)).below hG2 (by omega)).old hG3 (by simp)).old hG4 (by simp; omega)
    have hL4 : Below n w w4 := below_new (below_none (below_more (below_none (below_none (Below.refl n w) (by omega) hG0) (by omega) hG1) hG2 (by omega)) (by omega) hG3) (by omega) hG4 (by omega)
    obtain ⟨G, eG⟩ : ∃ G, w2.heap.size = G := ⟨_, rfl⟩
    have hGn : n + 2 ≤ G := by omega
    have hBp : Blk w4 G 80 p := by rw [eG] at hB4; exact hB4
    have hsz : G + 1 ≤ w4.heap.size := by omega
    obtain ⟨q, eq⟩ : ∃ q, part8 p 16 ++ (part8 p 8 ++ (part8 p 0 ++ [])) = q := ⟨_, rfl⟩
    have hBq : Blk w4b G 80 q := by rw [eG, swap24 p HPL.out, eq] at hB4b; exact hB4b
    obtain ⟨q0, q8, q16⟩ := sub3 (part8 p 16) (part8 p 8) (part8 p 0) (HP8.out 16 (by omega)) (HP8.out 8 (by omega)) (HP8.out 0 (by omega))
    rw [eq] at q0 q8 q16
    have hql : q.length = 24 := by rw [← eq]; simp [HP8.out 16 (by omega), HP8.out 8 (by omega), HP8.out 0 (by omega)]
    have HTq : Hid (ptriple key b true = triple3 (part8 q 0) (part8 q 8) (part8 q 16) b true) := Lib.hid (by rw [HT'.out, q0, q8, q16])
    have hBb' : Blk w4b n 23 b := (hBb.old hG4a (by simp; omega)).old hG4b (by simp; omega)
    have hRn' : Row w4b (n + 1) 23 8 := (hRn.old hG4a (by simp; omega)).old hG4b (by simp; omega)
    have hL5 : Below n w w4b := below_new (below_new hL4 (by omega) hG4a (by omega)) (by omega) hG4b (by omega)
    have hsz' : G + 1 ≤ w4b.heap.size := by omega
    rw [eG]
    clear hB0 hG0 hs0 hR1 hG1 hs1 hG2 hR3 hG3 hs3 hB4 hG4 hs4 e0 h2s eG hn hB4a hG4a hs4a hB4b hG4b hs4b q0 q8 q16 eq hsz
    have HK0 := Lib.hid (part8_len q 0 (by rw [hql]; omega))
    have HK1 := Lib.hid (part8_len q 8 (by rw [hql]; omega))
    have HK2 := Lib.hid (part8_len q 16 (by rw [hql]; omega))
    have hNW : n + 2 ≤ w4b.heap.size := by omega
    obtain ⟨N, eN⟩ : ∃ N, w4b.heap.size = N := ⟨_, rfl⟩
    have hNle : N ≤ w4b.heap.size := by omega
    have hNG : G < N := by omega
    have hdr : Below N w4b w4b.drew := by rw [← eN]; exact below_drew _
    refine wp_quiet_tail (fun w' => Below N w4b w') 14 (by kernel_rfl) (by kernel_rfl) hdr ?_
    simp only [List.take_succ_cons, List.take_zero, List.drop_succ_cons, List.drop_zero]
    refine quiet_val (by kernel_rfl) (.pointer (some ⟨G, 16, none⟩)) (fun w => by kernel_rfl) ?_
    refine quiet_load (by kernel_rfl) 23 _ rfl G 16 8 5 (part8 q 16) (by kernel_rfl) (fun w' hw' => (hBq.below hw' hNG).rd 16 8 (by rw [hql]; omega)) HK2.out (by kernel_rfl) (by kernel_rfl) ?_
    refine quiet_val (by kernel_rfl) (.pointer (some ⟨G, 8, none⟩)) (fun w => by kernel_rfl) ?_
    refine quiet_load (by kernel_rfl) 23 _ rfl G 8 8 5 (part8 q 8) (by kernel_rfl) (fun w' hw' => (hBq.below hw' hNG).rd 8 8 (by rw [hql]; omega)) HK1.out (by kernel_rfl) (by kernel_rfl) ?_
    refine quiet_val (by kernel_rfl) (.pointer (some ⟨G, 0, none⟩)) (fun w => by kernel_rfl) ?_
    refine quiet_load (by kernel_rfl) 23 _ rfl G 0 8 5 (part8 q 0) (by kernel_rfl) (fun w' hw' => (hBq.below hw' hNG).rd 0 8 (by rw [hql]; omega)) HK0.out (by kernel_rfl) (by kernel_rfl) ?_
    refine quiet_load (by kernel_rfl) 23 _ rfl n 0 8 5 b (by kernel_rfl) (fun w' hw' => (by
        have h := (hBb'.below hw' (by omega)).rd 0 8 (by rw [HNB.out]; omega)
        rw [List.drop_zero, List.take_of_length_le (by rw [HNB.out]; omega)] at h
        exact h)) HNB.out (by kernel_rfl) (by kernel_rfl) ?_
    refine quiet_val (by kernel_rfl) (.bool true) (fun w => by kernel_rfl) ?_
    refine quiet_enter (by kernel_rfl) 43 #[.agg (Bs (part8 q 0)), .agg (Bs b), .bool true] (.agg (Bs (dblock (part8 q 0) b true))) (fun w => by kernel_rfl) (fun w' hw' => block_in _ _ true HK0.out HNB.out N w4b w' hw' hNle) ?_
    refine quiet_val (by kernel_rfl) (.bool true) (fun w => by kernel_rfl) ?_
    refine quiet_val (by kernel_rfl) (.bool false) (fun w => by kernel_rfl) ?_
    refine quiet_enter (by kernel_rfl) 43 #[.agg (Bs (part8 q 8)), .agg (Bs (dblock (part8 q 0) b true)), .bool false] (.agg (Bs (dblock (part8 q 8) (dblock (part8 q 0) b true) false))) (fun w => by kernel_rfl) (fun w' hw' => block_in _ _ false HK1.out (dblock_len _ _ _) N w4b w' hw' hNle) ?_
    refine quiet_val (by kernel_rfl) (.bool true) (fun w => by kernel_rfl) ?_
    refine quiet_enter (by kernel_rfl) 43 #[.agg (Bs (part8 q 16)), .agg (Bs (dblock (part8 q 8) (dblock (part8 q 0) b true) false)), .bool true] (.agg (Bs (triple3 (part8 q 0) (part8 q 8) (part8 q 16) b true))) (fun w => by kernel_rfl) (fun w' hw' => block_in _ _ true HK2.out (dblock_len _ _ _) N w4b w' hw' hNle) ?_
    refine wpQuiet_nil ?_
    intro w5 hG5
    simp only [Act.put, List.setIfInBounds_toArray, List.set_cons_succ, List.set_cons_zero]
    go_wp2_with (refine store_blk (w := w5) rfl 23 _ _ rfl (n + 1) 23 8 (triple3 (part8 q 0) (part8 q 8) (part8 q 16) b true) rfl rfl (hRn'.below hG5 (by omega)) (dblock_len _ _ _) (by kernel_rfl) ?_; intro w6 hB6 hG6 hs6)
    refine bodyPost_ret (results_blk rfl _ _ (n + 1) 23 8 5 (triple3 (part8 q 0) (part8 q 8) (part8 q 16) b true) rfl hB6 (dblock_len _ _ _) (by kernel_rfl) (by kernel_rfl)) rfl ⟨by rw [HTq.out]; rfl, ?_⟩
    rw [Hn.out]
    have h5s := hG5.size
    exact below_new (below_more hL5 hG5 (by omega)) (by omega) hG6 (by omega)
end Go.Proofs.Ytjbdhnmkeaogcaa
