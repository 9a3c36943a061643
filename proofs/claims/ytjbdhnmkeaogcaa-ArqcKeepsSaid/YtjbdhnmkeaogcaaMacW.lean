/- Codes of texts: a block doubled, a text filled up. -/
import Derived.Test.YtjbdhnmkeaogcaaMacP
set_option linter.unusedVariables false
set_option linter.unusedSimpArgs false
namespace Lk
open Go Go.RowKit
section
variable {P : Program} {ops : Array Oper} {rest : List Oper} {o : Oper} {a : Act} {w : World} {Q : Exit → Act → World → Prop}
theorem run_storeVar_one (w : World) (g k : Nat) (ty : TypeId) (v u : Value) (hc : w.cell? ⟨g, k, none⟩ = some v) (hf : w.frozen? ⟨g, k, none⟩ = false) (h1 : u.oneCell' = true) (hi : (P.info? ty).map (·.size) = some 1) :
    (storeVar ty ⟨g, k, none⟩ u).run P w = .ok () (w.setCell ⟨g, k, none⟩ u) := by
  have e : u.cells = #[u] := by cases u <;> first | rfl | (simp [Value.oneCell'] at h1)
  cases hq : P.info? ty with
  | none => simp [hq] at hi
  | some i =>
    have hs : i.size = 1 := by simpa [hq] using hi
    have hst := run_store P w ⟨g, k, none⟩ u .plain h1
    rw [hc, hf] at hst
    simp [storeVar, Go.sizeOf, typeInfo, hq, e, hs, storeCells, Addr.add_lit, hst]
/-- a byte stored into a block that is known -/
theorem store_b (hgd : o.guard = none) (ty : TypeId) (x y : Operand) (ho : o.op = .store ty x y) (g k T : Nat) (l : List UInt8) (c : UInt8) (hx : a.eval x = .pointer (some ⟨g, k, none⟩)) (z : Int) (hy : a.eval y = .int .u8 z) (hz : z = bv c) (hB : Blk w g T l) (hk : k < l.length)
    (hi : (P.info? ty).map (·.size) = some 1)
    (h : ∀ w1, Blk w1 g T (l.set k c) → w.grownBy w1 (some g) → w1.heap.size = w.heap.size → wpList P ops Q rest (a.put o.dst undef) w1) : wpList P ops Q (o :: rest) a w :=
  wpList_plain hgd fun _ hK => by
    subst hz
    unfold Oper.wp execOp
    simp only [ho, hx, hy, Instr.storeAt, Instr.sureAddr, Sem.run_bind, Sem.run_pure, Result.andThen_ok, run_storeVar_one w g k ty _ (.int .u8 (bv c)) (hB.cell k hk) (hB.free k) rfl hi]
    exact hK _ _ (h _ (hB.set k c) (grown_set (grown_refl _ _) _ _) (World.size_setCell ..))
end
theorem one_slB (w : World) (x : UInt8) : SlB (w.alloc (.cells #[.int .u8 (bv x)] u8t)) (.slice (some ⟨w.heap.size, 0, none⟩) 1 1) [x] :=
  New.slB (base := 0) (l := [x]) ⟨w.heap.size, u8t, rfl, Nat.zero_le _, heap_alloc_new w _⟩ (by show 1 ≤ maxLen; decide)
theorem below_own {w w1 w2 : World} {B : Nat} {row : Option Nat} (h : Below B w w1) (hB : B ≤ w1.heap.size) (hG : w1.grownBy w2 row) (hg : ∀ k, row = some k → B ≤ k) : Below B w w2 :=
  ⟨hG.os.trans h.os, hG.tape.trans h.tape, hG.output.trans h.output, Nat.le_trans h.size hG.size, fun i hi => by
    rw [hG.block i (by omega) (by intro e; have := hg i e.symm; omega)]; exact h.block i hi⟩
def lenOf : Value → Nat
  | .slice _ n _ => n
  | _ => 0
theorem Own.len {w : World} {base : Nat} {v : Value} {l : List UInt8} (h : Own w base v l) : lenOf v = l.length := by
  obtain ⟨A, c, rfl, _⟩ := h.slB
  rfl
end Lk
namespace Go.Proofs.Ytjbdhnmkeaogcaa
open Go.RowKit Lk
attribute [local go_sem] bv_top
set_option maxHeartbeats 1600000 in
set_option maxRecDepth 100000 in
theorem doubled_any (vb : Value) (b : List UInt8) (w : World) (h : SlB w vb b) (hb : b.length = 8 ∨ b.length = 16) :
    Calls Try.prog 35 #[vb] w fun e w' => ∃ v, e = .returned v ∧ New w' w.heap.size v (pdbl b) ∧ Below w.heap.size w w' := by
  obtain ⟨n, hn⟩ : ∃ n, w.heap.size = n := ⟨_, rfl⟩
  have Hn := Lib.hid hn
  obtain ⟨A, ca, rfl, _, hlca, hcma, hra⟩ := h
  obtain ⟨gb, ob, rfl, hrd⟩ := hra (by omega)
  have hgb : gb < n := by rw [← hn]; exact block_of_cell (hrd 0 (by omega))
  obtain ⟨m, em⟩ : ∃ m, b.length = m := ⟨_, rfl⟩
  have EM := Lib.hid em
  have HRD := Lib.hid hrd
  rw [em] at hlca hb ⊢
  have hmx : m ≤ 16 := by omega
  have hm0 : 0 < m := by omega
  have HB := Lib.hid hb
  clear hra hrd em hb
  go_enter Try.func35, Try.ntmps35
  go_wp2_with (refine make_new rfl 22 5 _ _ rfl m (by kernel_rfl) (by kernel_rfl) .i64 .i64 rfl rfl (by omega) ?_; intro w1 hB1 hG1 hs1)
  have hL1 : Below n w w1 := below_none (Below.refl n w) (by omega) hG1
  have hB1' : Blk w1 n 5 (dblTo b 0) := by rw [dblTo_zero, EM.out]; rw [hn] at hB1; exact hB1
  have hsz : n + 1 ≤ w1.heap.size := by omega
  clear hB1 hG1 hs1 hn
  go_loopw [11] (fun i wr => ∃ k : Nat, k ≤ m ∧ i = .int .i64 k ∧ Blk wr n 5 (dblTo b k) ∧ Below n w wr ∧ n + 1 ≤ wr.heap.size) (fun i _ => m - (intOf i).toNat)
  case atStart => exact ⟨0, by omega, rfl, hB1', hL1, hsz⟩
  case round =>
    clear hB1' hL1 hsz
    obtain ⟨k, hk, rfl, hB, hL, hsz⟩ := hrel
    by_cases hlt : k < m
    · have c1 : wr.cell? ⟨gb, ob + k, none⟩ = some (.int .u8 (bv (g8 b k))) := cell_below (HRD.out k (by rw [EM.out]; exact hlt)) hL hgb
      have HBl := Lib.hid hB
      have HL := Lib.hid hL
      have HLT := Lib.hid hlt
      clear hB hL
      by_cases hlast : k + 1 < m
      · go_wp2_with ((with_reducible show wpList _ _ _ _ _ wr); (refine store_b (w := wr) rfl 5 _ _ rfl n k 5 (dblTo b k) (g8 b k <<< 1) (by rfl) _ (by rfl) (bv_dbl _) HBl.out (by rw [dblTo_len, EM.out]; exact HLT.out) (by kernel_rfl) ?_); intro w2 hB2 hG2 hs2; have c2 : w2.cell? ⟨gb, ob + (k + 1), none⟩ = some (.int .u8 (bv (g8 b (k + 1)))) := cell_below (cell_below (HRD.out (k + 1) (by rw [EM.out]; exact hlast)) HL.out hgb) (below_new (Below.refl n wr) (by omega) hG2 (Nat.le_refl n)) hgb; have c3 : w2.cell? ⟨n, k, none⟩ = some (.int .u8 (bv (g8 b k <<< 1))) := (by have := hB2.cell k (by rw [List.length_set, dblTo_len, EM.out]; exact HLT.out); rw [show g8 ((dblTo b k).set k (g8 b k <<< 1)) k = g8 b k <<< 1 from by simp [g8, dblTo_len, EM.out, HLT.out]] at this; exact this); have f3 := hB2.free k; have HB2 := Lib.hid hB2; have HG2 := Lib.hid hG2; clear hB2 hG2)
        go_region
        go_wp2
        go_roundw
        case rel =>
          have hG3 : w2.grownBy ((w2.setCell ⟨n, k, none⟩ (.int .u8 (bv (g8 b k <<< 1 ||| g8 b (k + 1) >>> 7)))).drew) (some n) := grown_drew (grown_set (grown_refl _ _) _ _)
          refine ⟨k + 1, HLT.out, by go_num, ?_, below_new (below_new HL.out (by omega) HG2.out (Nat.le_refl n)) (by omega) hG3 (Nat.le_refl n), by have := hG3.size; omega⟩
          rw [← dblTo_set b k (by rw [EM.out]; exact HLT.out)]
          have := (HB2.out.set k (g8 b k <<< 1 ||| g8 b (k + 1) >>> 7)).drew
          rw [List.set_set] at this
          exact this
        case measure => have : k < m := HLT.out; simp [intOf]; omega
      · go_wp2_with ((with_reducible show wpList _ _ _ _ _ wr); (refine store_b (w := wr) rfl 5 _ _ rfl n k 5 (dblTo b k) (g8 b k <<< 1) (by rfl) _ (by rfl) (bv_dbl _) HBl.out (by rw [dblTo_len, EM.out]; exact HLT.out) (by kernel_rfl) ?_); intro w2 hB2 hG2 hs2; have HB2 := Lib.hid hB2; have HG2 := Lib.hid hG2; clear hB2 hG2)
        go_roundw
        case rel =>
          refine ⟨k + 1, HLT.out, by go_num, ?_, below_new HL.out (by omega) HG2.out (Nat.le_refl n), by omega⟩
          rw [← dblTo_set b k (by rw [EM.out]; exact HLT.out)]
          rw [g8_over b (k + 1) (by rw [EM.out]; omega), zero_shr7, or_zero8]
          exact HB2.out
        case measure => have : k < m := HLT.out; simp [intOf]; omega
    · have HE := Lib.hid (show k = m by omega)
      have HBl := Lib.hid hB
      have HL := Lib.hid hL
      have c0 : wr.cell? ⟨gb, ob, none⟩ = some (.int .u8 (bv (g8 b 0))) := cell_below (HRD.out 0 (by rw [EM.out]; exact hm0)) hL hgb
      have e0 : Go.bits .and .u8 (bv (g8 b 0)) 128 = bv (g8 b 0 &&& 0x80) := bv_and (g8 b 0) 0x80
      have E0 := Lib.hid e0
      have hpd : pdbl b = if g8 b 0 &&& 0x80 != 0 then (dblTo b m).set (m - 1) (g8 (dblTo b m) (m - 1) ^^^ dturn m) else dblTo b m := by unfold pdbl; rw [EM.out]
      have hbm : Blk wr n 5 (dblTo b m) := by have := HBl.out; rw [HE.out] at this; exact this
      have hpl : (pdbl b).length = m := by rw [pdbl_len, EM.out]
      have HPL := Lib.hid hpl
      have HPD := Lib.hid hpd
      have HBM := Lib.hid hbm
      clear hB hL e0 hpd hbm hpl
      by_cases hb0 : (g8 b 0 &&& 0x80 != 0) = true
      · have hb1 : (Go.bits .and .u8 (bv (g8 b 0)) 128 != 0) = true := by rw [E0.out]; rw [← hb0]; exact bv_ne _ 0
        have HB0 := Lib.hid hb0
        clear hb0
        obtain ⟨x, ex⟩ : ∃ x, g8 (dblTo b m) (m - 1) = x := ⟨_, rfl⟩
        have cx : wr.cell? ⟨n, m - 1, none⟩ = some (.int .u8 (bv x)) := by rw [← ex]; exact HBM.out.cell _ (by rw [dblTo_len, EM.out]; omega)
        have fx : wr.frozen? ⟨n, m - 1, none⟩ = false := HBM.out.free _
        have EX := Lib.hid ex
        clear ex
        have e27 : Go.bits .xor .u8 (bv x) 27 = bv (x ^^^ dturn 8) := bv_xor x 0x1b
        have e135 : Go.bits .xor .u8 (bv x) 135 = bv (x ^^^ dturn 16) := bv_xor x 0x87
        rcases HB.out with e | e
        · subst e
          go_wp2
          go_ret
          refine ⟨_, rfl, ⟨n, 5, by rw [HPL.out]; rfl, by rw [Hn.out]; exact Nat.le_refl _, ?_⟩, ?_⟩
          · rw [HPD.out, if_pos HB0.out, EX.out]; exact HBM.out.set 7 (x ^^^ dturn 8)
          · rw [Hn.out]; exact below_new HL.out (by omega) (grown_set (grown_refl _ _) _ _) (Nat.le_refl n)
        · subst e
          go_wp2
          go_ret
          refine ⟨_, rfl, ⟨n, 5, by rw [HPL.out]; rfl, by rw [Hn.out]; exact Nat.le_refl _, ?_⟩, ?_⟩
          · rw [HPD.out, if_pos HB0.out, EX.out]; exact HBM.out.set 15 (x ^^^ dturn 16)
          · rw [Hn.out]; exact below_new HL.out (by omega) (grown_set (grown_refl _ _) _ _) (Nat.le_refl n)
      · have hb1 : (Go.bits .and .u8 (bv (g8 b 0)) 128 != 0) = false := by
          rw [E0.out]
          have := bv_ne (g8 b 0 &&& 0x80) 0
          have e1 : (g8 b 0 &&& 0x80 != 0) = false := by simpa using hb0
          rw [e1] at this; exact this
        have HB0 := Lib.hid hb0
        clear hb0
        go_wp2
        go_ret
        refine ⟨_, rfl, ⟨n, 5, by rw [HPL.out]; rfl, by rw [Hn.out]; exact Nat.le_refl _, ?_⟩, by rw [Hn.out]; exact HL.out⟩
        rw [HPD.out, if_neg HB0.out]; exact HBM.out
set_option maxHeartbeats 1600000 in
set_option maxRecDepth 100000 in
theorem Pad_any (vt : Value) (text : List UInt8) (n : Nat) (w : World) (hs : SlB w vt text) (hl : text.length ≤ 1000000) (hn1 : 0 < n) (hn2 : n ≤ 64) :
    Calls Try.prog 16 #[vt, .int .i64 n] w fun e w' => ∃ v, e = .returned v ∧ Own w' w.heap.size v (ppad text n) ∧ Below w.heap.size w w' := by
  obtain ⟨N, hN⟩ : ∃ N, w.heap.size = N := ⟨_, rfl⟩
  have HC := Lib.hid (clone_any vt text w hs (by omega))
  have hvt : ∃ A l c, vt = .slice A l c := by obtain ⟨A, c, e, _⟩ := hs; exact ⟨A, _, c, e⟩
  obtain ⟨At, lt, ct, rfl⟩ := hvt
  obtain ⟨L, eL⟩ : ∃ L, text.length = L := ⟨_, rfl⟩
  obtain ⟨Z, eZ⟩ : ∃ Z, pzeros L n = Z := ⟨_, rfl⟩
  have hz := pzeros_lt L n hn1
  rw [eZ] at hz
  have HST := Lib.hid (fun j (hj : j ≤ Z) => pad_step L n j hn1 (by rw [eZ]; exact hj))
  rw [eZ] at HST
  have HP := Lib.hid (show ppad text n = text ++ 128 :: List.replicate Z 0 by unfold ppad; rw [eL, eZ])
  rw [eL] at hl
  have EL := Lib.hid eL
  have HN := Lib.hid hN
  clear hs eL eZ
  go_enter Try.func16, Try.ntmps16
  go_wp2_with (first
    | (go_at_call 31; refine HC.out.mono ?_; rintro e w1 ⟨v1, rfl, hO1, hL1⟩; rw [hN] at hO1 hL1; have HO1 := Lib.hid hO1; have HL1 := Lib.hid hL1; have hs1 := hL1.size; obtain ⟨A1, c1, e1, _⟩ := hO1.slB; subst e1; clear hO1 hL1)
    | (at_builtin; refine append_b hu_sl hu_u8 rfl _ _ rfl N _ text (by rfl) (HO1.out.alloc _) _ [128] (by rfl) (one_slB w1 128) (by rw [EL.out]; show L + 1 ≤ _; omega) (by show N ≤ (w1.heap.push _).size; simp; omega) ?_; intro v2 w2 hO2 hG2; have HO2 := Lib.hid hO2; have HL2 := Lib.hid (show Below N w w2 from below_own (HL1.out.alloc (by omega) _) (by show N ≤ (w1.heap.push _).size; simp; omega) hG2 (fun k hk => (HO1.out.lt k hk).1)); clear hO2 hG2))
  have hn0 : ¬ (n : Int) = 0 := by omega
  go_loopw [5] (fun o wr => ∃ (j : Nat) (vo : Value), j ≤ Z ∧ vo = o ∧ Own wr N vo (text ++ 128 :: List.replicate j 0) ∧ Below N w wr) (fun o _ => L + 1 + Z - lenOf o)
  case atStart => exact ⟨0, _, by omega, rfl, HO2.out, HL2.out⟩
  case round =>
    obtain ⟨j, o, hj, ho0, hO, hL⟩ := hrel
    subst ho0
    clear HO2 HL2
    have hlen : (text ++ 128 :: List.replicate j (0 : UInt8)).length = L + 1 + j := by simp [EL.out]; omega
    have HO := Lib.hid hO
    have HL := Lib.hid hL
    have hwsz := hL.size
    rw [HN.out] at hwsz
    obtain ⟨T, eT⟩ : ∃ T, L + 1 + j = T := ⟨_, rfl⟩
    obtain ⟨g, cap, rfl, hg, hg', hrd, hfr, hc⟩ := hO.form (by rw [hlen]; omega)
    rw [hlen, eT] at hc
    have HLEN := Lib.hid (hlen.trans eT)
    rw [HLEN.out] at HO ⊢
    have hTb : T ≤ 2000000 := by omega
    have ET := Lib.hid eT
    have hst := HST.out j hj
    rw [eT] at hst
    clear hO hL hlen eT hrd hfr
    by_cases hjz : j = Z
    · have hm0 : T % n = 0 := hst.2 hjz
      have hm : ((T : Int) % (n : Int) != 0) = false := by
        have : ((T : Int) % (n : Int)) = ((T % n : Nat) : Int) := by simp
        rw [this, hm0]; rfl
      have HJ := Lib.hid hjz
      clear hst hm0 hjz
      go_wp2
      go_ret
      refine ⟨_, rfl, ?_, by rw [HN.out]; exact HL.out⟩
      rw [HN.out, HP.out]
      have := HO.out
      rw [HJ.out] at this
      exact this
    · have hm0 : ¬ T % n = 0 := fun e => hjz (hst.1 e)
      have hm : ((T : Int) % (n : Int) != 0) = true := by
        have : ((T : Int) % (n : Int)) = ((T % n : Nat) : Int) := by simp
        rw [this]; simp; omega
      have HJ := Lib.hid (show j < Z by omega)
      clear hst hm0 hjz
      go_wp2_with (at_builtin; refine append_b hu_sl hu_u8 rfl _ _ rfl N _ _ (by rfl) (HO.out.alloc _) _ [0] (by rfl) (one_slB wr 0) (by rw [HLEN.out]; show T + 1 ≤ _; omega) (by show N ≤ (wr.heap.push _).size; simp; omega) ?_; intro v2 w2 hO2 hG2; have HO2 := Lib.hid hO2; have HL2 := Lib.hid (show Below N w w2 from below_own (HL.out.alloc (by omega) _) (by show N ≤ (wr.heap.push _).size; simp; omega) hG2 (fun k hk => (HO.out.lt k hk).1)); clear hO2 hG2)
      go_roundw
      case rel =>
        refine ⟨j + 1, _, HJ.out, rfl, ?_, HL2.out⟩
        have := HO2.out
        rw [List.append_assoc] at this
        have e : (128 :: List.replicate j (0 : UInt8)) ++ [0] = 128 :: List.replicate (j + 1) 0 := by rw [List.cons_append, List.replicate_succ' ]
        rw [e] at this
        exact this
      case measure =>
        have h1 := HO2.out.len
        rw [List.length_append, HLEN.out] at h1
        have h2 := ET.out
        have h3 : j < Z := HJ.out
        simp only [List.length_singleton] at h1
        show L + 1 + Z - lenOf v2 < L + 1 + Z - T
        omega
end Go.Proofs.Ytjbdhnmkeaogcaa
