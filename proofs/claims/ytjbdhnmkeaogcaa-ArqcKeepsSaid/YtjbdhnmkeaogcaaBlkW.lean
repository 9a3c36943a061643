/- Block ciphers: a block of sixteen bytes. -/
import Derived.Test.YtjbdhnmkeaogcaaBlk
set_option linter.unusedVariables false
set_option linter.unusedSimpArgs false
namespace Lk
open Go Go.RowKit
section
variable {P : Program} {ops : Array Oper} {C : World → Prop} {Q : Act → Prop} {a : Act} {o : Oper} {rest : List Oper}
/-- a load of one cell that is the same in each world of the class -/
theorem quiet_cell (hw : Region.wanted o (yielded ops a.tmps) = true) (u : Value) (ty : TypeId) (x : Operand) (ho : o.op = .load ty x) (ad : Addr) (hx : a.eval x = .pointer (some ad)) (hl : ∀ w, w.cell? ad = some u → (loadVar ty ad : Sem Value).run P w = .ok u w)
    (hc : ∀ w, C w → w.cell? ad = some u) (hk : wpQuiet P ops C Q rest (a.put o.dst u)) : wpQuiet P ops C Q (o :: rest) a :=
  wpQuiet_step fun K hK => by
    rw [if_pos hw]
    refine ⟨u, fun w hC => ?_, hK _ hk⟩
    unfold Oper.quietAt execOp
    simp only [ho, hx, Instr.loadAt, Instr.sureAddr, Sem.run_bind, Sem.run_pure, Result.andThen_ok, hl w (hc w hC)]
    exact ⟨rfl, rfl⟩
end
/-- a block, enciphered or deciphered -/
def pdo (kind : Nat) (key b : List UInt8) (back : Bool) : List UInt8 := if kind = 2 then ptriple key b back else bif back then pDec key b else pEnc key b
theorem pEnc_len (key b : List UInt8) (h : b.length = 16) : (pEnc key b).length = 16 := encTo_len _ _ _ _
theorem pDec_len (key b : List UInt8) (h : b.length = 16) : (pDec key b).length = 16 := pwith_len _ _ _
theorem pfits_16 {n : Nat} (h : pfits 1 n = true) : n = 16 ∨ n = 24 ∨ n = 32 := by simpa [pfits, or_assoc] using h
end Lk
namespace Go.Proofs.Ytjbdhnmkeaogcaa
open Go.RowKit Lk
theorem load_sl (w : World) (ad : Addr) (u : Value) (h : w.cell? ad = some u) : (loadVar 22 ad : Sem Value).run Try.prog w = .ok u w := by
  simp [loadVar, go_sem, h]
set_option maxHeartbeats 1600000 in
set_option maxRecDepth 100000 in
theorem wide_any (q : Value) (B : Nat) (key b : List UInt8) (back : Bool) (w : World) (h : Cip w B q 1 key) (hB : B ≤ w.heap.size) (hf : pfits 1 key.length = true) (hb : b.length = 16) :
    Calls Try.prog 34 #[q, .agg (Bs b), .bool back] w fun e w' => e = .returned (.tuple #[.agg (Bs (pdo 1 key b back)), .nilIface]) ∧ Below w.heap.size w w' := by
  obtain ⟨n, hn⟩ : ∃ n, w.heap.size = n := ⟨_, rfl⟩
  have Hn := Lib.hid hn
  have HNB := Lib.hid hb
  have HF := Lib.hid (pfits_16 hf)
  have HC := Lib.hid h
  obtain ⟨g, v, bk, rfl, h2, h3, h4, h5, h6, h7⟩ := h
  have HV := Lib.hid h7
  have H3 := Lib.hid h3
  clear h7 h6 h3 hf
  cases back
  · go_enter Try.func34, Try.ntmps34
    go_wp2_with (first
      | ((with_reducible show wpList _ _ _ _ _ w); refine box_blk (w := w) rfl 40 _ rfl b rfl ?_; intro w0 hB0 hG0 hs0; have h40 := cell_old h4 hG0 (by simp); have h50 := cell_old h5 hG0 (by simp))
      | ((with_reducible show wpList _ _ _ _ _ w0); refine alloc_row (w := w0) rfl 40 rfl (.agg (Bs (List.replicate 16 0))) 16 (fun _ => by kernel_rfl) rfl ?_; intro w1 hR1 _ hG1 hs1; have h41 := cell_old h40 hG1 (by simp); have h51 := cell_old h50 hG1 (by simp)))
    have hc1 : Blk w1 n 40 b := by rw [hn] at hB0; exact hB0.old hG1 (by simp)
    have hRn : Row w1 (n + 1) 40 16 := by have e0 : w0.heap.size = n + 1 := (by omega); rw [e0] at hR1; exact hR1
    have hL1 : Below n w w1 := below_none (below_none (Below.refl n w) (by omega) hG0) (by omega) hG1
    have hN : n + 2 = w1.heap.size := by omega
    obtain ⟨N, eN⟩ : ∃ N, w1.heap.size = N := ⟨_, rfl⟩
    have hdr : Below N w1 w1.drew := by rw [← eN]; exact below_drew _
    have hgB : ∀ w', Below N w1 w' → Below n w w' := fun w' h => below_more hL1 h (by omega)
    refine wp_quiet_tail (fun w' => Below N w1 w') 8 (by kernel_rfl) (by kernel_rfl) hdr ?_
    simp only [List.take_succ_cons, List.take_zero, List.drop_succ_cons, List.drop_zero]
    refine quiet_val (by kernel_rfl) (.pointer (some ⟨g, 0, none⟩)) (fun w => by kernel_rfl) ?_
    refine quiet_val (by kernel_rfl) (.pointer (some ⟨g, 0, none⟩)) (fun w => by kernel_rfl) ?_
    refine quiet_val (by kernel_rfl) (.pointer (some ⟨g, 1, none⟩)) (fun w => by kernel_rfl) ?_
    refine quiet_cell (by kernel_rfl) v 22 _ rfl ⟨g, 1, none⟩ (by kernel_rfl) (fun w h => load_sl w _ _ h) (fun w' hw' => cell_below h51 hw' (by show g < N; omega)) ?_
    refine quiet_load (by kernel_rfl) 40 _ rfl n 0 16 5 b (by kernel_rfl) (fun w' hw' => (by
        have h := (hc1.below hw' (by omega)).rd 0 16 (by rw [HNB.out]; omega)
        rw [List.drop_zero, List.take_of_length_le (by rw [HNB.out]; omega)] at h
        exact h)) HNB.out (by kernel_rfl) (by kernel_rfl) ?_
    refine quiet_enter (by kernel_rfl) 46 #[v, .agg (Bs b)] (.tuple #[.agg (Bs (pEnc key b)), .nilIface]) (fun w => by kernel_rfl) (fun w' hw' => (encrypt_any v key b w' (HV.out.under (hgB w' hw') (fun k hk => by have := H3.out k hk; omega)) HF.out HNB.out).mono fun _ _ ⟨k1, k2⟩ => ⟨k1, below_more hw' k2 (by have := hw'.size; omega)⟩) ?_
    refine quiet_val (by kernel_rfl) (.agg (Bs (pEnc key b))) (fun w => by kernel_rfl) ?_
    refine quiet_val (by kernel_rfl) .nilIface (fun w => by kernel_rfl) ?_
    refine wpQuiet_nil ?_
    intro w5 hG5
    simp only [Act.put, List.setIfInBounds_toArray, List.set_cons_succ, List.set_cons_zero]
    go_wp2_with (refine store_blk (w := w5) rfl 40 _ _ rfl (n + 1) 40 16 (pEnc key b) rfl rfl (hRn.below hG5 (by omega)) (pEnc_len key b HNB.out) (by kernel_rfl) ?_; intro w6 hB6 hG6 hs6)
    refine bodyPost_ret (results_blk rfl _ _ (n + 1) 40 16 5 (pEnc key b) rfl hB6 (pEnc_len key b HNB.out) (by kernel_rfl) (by kernel_rfl)) rfl ⟨rfl, ?_⟩
    rw [Hn.out]
    have h5s := hG5.size
    exact below_new (below_more hL1 hG5 (by omega)) (by omega) hG6 (by omega)
  · go_enter Try.func34, Try.ntmps34
    go_wp2_with (first
      | ((with_reducible show wpList _ _ _ _ _ w); refine box_blk (w := w) rfl 40 _ rfl b rfl ?_; intro w0 hB0 hG0 hs0; have h40 := cell_old h4 hG0 (by simp); have h50 := cell_old h5 hG0 (by simp))
      | ((with_reducible show wpList _ _ _ _ _ w0); refine alloc_row (w := w0) rfl 40 rfl (.agg (Bs (List.replicate 16 0))) 16 (fun _ => by kernel_rfl) rfl ?_; intro w1 hR1 _ hG1 hs1; have h41 := cell_old h40 hG1 (by simp); have h51 := cell_old h50 hG1 (by simp)))
    have hc1 : Blk w1 n 40 b := by rw [hn] at hB0; exact hB0.old hG1 (by simp)
    have hRn : Row w1 (n + 1) 40 16 := by have e0 : w0.heap.size = n + 1 := (by omega); rw [e0] at hR1; exact hR1
    have hL1 : Below n w w1 := below_none (below_none (Below.refl n w) (by omega) hG0) (by omega) hG1
    have hN : n + 2 = w1.heap.size := by omega
    obtain ⟨N, eN⟩ : ∃ N, w1.heap.size = N := ⟨_, rfl⟩
    have hdr : Below N w1 w1.drew := by rw [← eN]; exact below_drew _
    have hgB : ∀ w', Below N w1 w' → Below n w w' := fun w' h => below_more hL1 h (by omega)
    refine wp_quiet_tail (fun w' => Below N w1 w') 8 (by kernel_rfl) (by kernel_rfl) hdr ?_
    simp only [List.take_succ_cons, List.take_zero, List.drop_succ_cons, List.drop_zero]
    refine quiet_val (by kernel_rfl) (.pointer (some ⟨g, 0, none⟩)) (fun w => by kernel_rfl) ?_
    refine quiet_val (by kernel_rfl) (.pointer (some ⟨g, 0, none⟩)) (fun w => by kernel_rfl) ?_
    refine quiet_val (by kernel_rfl) (.pointer (some ⟨g, 1, none⟩)) (fun w => by kernel_rfl) ?_
    refine quiet_cell (by kernel_rfl) v 22 _ rfl ⟨g, 1, none⟩ (by kernel_rfl) (fun w h => load_sl w _ _ h) (fun w' hw' => cell_below h51 hw' (by show g < N; omega)) ?_
    refine quiet_load (by kernel_rfl) 40 _ rfl n 0 16 5 b (by kernel_rfl) (fun w' hw' => (by
        have h := (hc1.below hw' (by omega)).rd 0 16 (by rw [HNB.out]; omega)
        rw [List.drop_zero, List.take_of_length_le (by rw [HNB.out]; omega)] at h
        exact h)) HNB.out (by kernel_rfl) (by kernel_rfl) ?_
    refine quiet_enter (by kernel_rfl) 45 #[v, .agg (Bs b)] (.tuple #[.agg (Bs (pDec key b)), .nilIface]) (fun w => by kernel_rfl) (fun w' hw' => (decrypt_any v key b w' (HV.out.under (hgB w' hw') (fun k hk => by have := H3.out k hk; omega)) HF.out HNB.out).mono fun _ _ ⟨k1, k2⟩ => ⟨k1, below_more hw' k2 (by have := hw'.size; omega)⟩) ?_
    refine quiet_val (by kernel_rfl) (.agg (Bs (pDec key b))) (fun w => by kernel_rfl) ?_
    refine quiet_val (by kernel_rfl) .nilIface (fun w => by kernel_rfl) ?_
    refine wpQuiet_nil ?_
    intro w5 hG5
    simp only [Act.put, List.setIfInBounds_toArray, List.set_cons_succ, List.set_cons_zero]
    go_wp2_with (refine store_blk (w := w5) rfl 40 _ _ rfl (n + 1) 40 16 (pDec key b) rfl rfl (hRn.below hG5 (by omega)) (pDec_len key b HNB.out) (by kernel_rfl) ?_; intro w6 hB6 hG6 hs6)
    refine bodyPost_ret (results_blk rfl _ _ (n + 1) 40 16 5 (pDec key b) rfl hB6 (pDec_len key b HNB.out) (by kernel_rfl) (by kernel_rfl)) rfl ⟨rfl, ?_⟩
    rw [Hn.out]
    have h5s := hG5.size
    exact below_new (below_more hL1 hG5 (by omega)) (by omega) hG6 (by omega)
end Go.Proofs.Ytjbdhnmkeaogcaa
