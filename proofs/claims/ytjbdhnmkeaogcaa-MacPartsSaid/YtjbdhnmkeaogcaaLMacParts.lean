/- MacParts: unlike texts of one block have unlike codes. -/
import Derived.Test.YtjbdhnmkeaogcaaAwk07
import Derived.Test.YtjbdhnmkeaogcaaRight07
set_option linter.unusedVariables false
set_option linter.unusedSimpArgs false
namespace Go.Proofs.Ytjbdhnmkeaogcaa
open Go.RowKit Lk
set_option maxHeartbeats 6400000 in
set_option maxRecDepth 100000 in
theorem MacParts_any (vk : Value) (key a b : List UInt8) (cut : UInt8) (w : World) (h : SlB w vk key) (ha : a.length = 8) (hb : b.length = 8) :
    Calls Try.prog 3 #[vk, .agg (Bs a), .agg (Bs b), .int .u8 (bv cut)] w fun e w' => e = .returned (.bool true) ∧ Below w.heap.size w w' := by
  obtain ⟨N, hN⟩ : ∃ N, w.heap.size = N := ⟨_, rfl⟩
  have HN := Lib.hid hN
  have HK := Lib.hid (fun (w' : World) (hw' : Below N w w') => h.below (by rw [hN]; exact hw'))
  obtain ⟨Ak, Lk, ck, rfl⟩ : ∃ A L c, vk = .slice A L c := by obtain ⟨A, c, e, _⟩ := h; exact ⟨A, _, c, e⟩
  have HA := Lib.hid ha
  have HB := Lib.hid hb
  obtain ⟨k, ek⟩ : ∃ k, pright key 24 = k := ⟨_, rfl⟩
  have hkl : k.length = 24 := by rw [← ek]; exact pright_len _ _
  have hf : pfits 2 k.length = true := by rw [hkl]; rfl
  have EK := Lib.hid ek
  have HKL := Lib.hid hkl
  have HF := Lib.hid hf
  obtain ⟨n, en, hn⟩ : ∃ n : Nat, bv cut % 8 = (n : Int) ∧ n < 8 := ⟨cut.toNat % 8, by unfold bv; push_cast; rfl, Nat.mod_lt _ (by decide)⟩
  have hz0 := bv_ge cut
  have hz1 := bv_lt cut
  have hq := fun w => run_eql_bs (P := Try.prog) w (t := 23) (e := 5) a b (by kernel_rfl) (by kernel_rfl) (by kernel_rfl) (by kernel_rfl) ha hb
  have hab : a.length = b.length := by omega
  have LW := Lib.hid (show (pcmac 2 k a == pcmac 2 k b) = (a == b) by rw [Bool.eq_iff_iff, beq_iff_eq, beq_iff_eq]; exact parts_whole k a b ha hb)
  have LS := Lib.hid (show (pcmac 2 k (a.take n) == pcmac 2 k (b.take n)) = (a.take n == b.take n) by rw [Bool.eq_iff_iff, beq_iff_eq, beq_iff_eq]; exact parts_short k _ _ (by rw [List.length_take]; omega) (by rw [List.length_take, List.length_take, hab]))
  have LP := Lib.hid (show pzer 2 k ≠ List.replicate 8 0 → (pcmac 2 k (ppad (a.take n) 8) == pcmac 2 k (a.take n)) = false from fun hz => by rw [beq_eq_false_iff_ne]; exact parts_pad k _ (by rw [List.length_take]; omega) hz)
  have LR := Lib.hid (show (pretail (k.take 16) (a.take n) == pretail (k.take 16) (b.take n)) = (a.take n == b.take n) by rw [Bool.eq_iff_iff, beq_iff_eq, beq_iff_eq]; exact parts_retail _ _ _ (by rw [List.length_take]; omega) (by rw [List.length_take, List.length_take, hab]))
  have hta : (a.take n).length ≤ 1000 := by rw [List.length_take]; omega
  have htb : (b.take n).length ≤ 1000 := by rw [List.length_take]; omega
  have HTA := Lib.hid hta
  have HTB := Lib.hid htb
  clear h ek hkl hf hab ha hb hta htb
  go_enter Try.func3, Try.ntmps3
  have hM0 : Below N w w := Below.refl _ _
  have hs0 : N ≤ w.heap.size := by omega
  go_wp2_with (first
    | ((with_reducible show wpList _ _ _ _ _ w); refine box_blk (w := w) rfl 23 _ rfl a rfl ?_; intro u0 hBa hG0 hz0)
    | ((with_reducible show wpList _ _ _ _ _ u0); refine box_blk (w := u0) rfl 23 _ rfl b rfl ?_; intro u1 hBb hG1 hz1))
  have hL : Below w.heap.size w u1 := below_none (below_none (Below.refl _ _) (Nat.le_refl _) hG0) (by omega) hG1
  have hBa1 := hBa.old hG1 (by simp)
  rw [hN] at hBa1 hz0
  have hu0 : u0.heap.size = N + 1 := by omega
  rw [hu0] at hBb
  clear hBa hG0 hG1 hz0 hz1 hu0
  have hM1 : Below N w u1 := below_more hM0 hL hs0
  have hs1 : N ≤ u1.heap.size := Nat.le_trans hs0 (hL).size
  clear hM0 hs0
  clear hL
  have BA_1 := Lib.hid (hBa1)
  have BB_1 := Lib.hid (hBb)
  clear hBa1 hBb
  go_wp2_with fail
  refine (right07 2 24 (.inr (.inl ⟨rfl, rfl⟩)) _ key u1 (HK.out u1 hM1)).mono ?_
  rintro e w2 ⟨v, rfl, hO, hL⟩
  rw [EK.out] at hO
  obtain ⟨Ar, cr, rfl, hcr⟩ := hO.slB.formc HKL.out
  have hcr16 : (16 : Int) ≤ (cr : Int) := by omega
  have hM2 : Below N w w2 := below_more hM1 hL hs1
  have hs2 : N ≤ w2.heap.size := Nat.le_trans hs1 (hL).size
  have BA_2 := Lib.hid (BA_1.out.under hL)
  clear BA_1
  have BB_2 := Lib.hid (BB_1.out.under hL)
  clear BB_1
  clear hM1 hs1
  have SK_2 := Lib.hid (hO.slB)
  clear hO hL
  go_wp2_with fail
  refine (New_tdes _ k w2 HF.out SK_2.out).mono ?_
  rintro e w3 ⟨q, rfl, hC, hL⟩
  obtain ⟨gq, eq⟩ : ∃ gq, q = .pointer (some ⟨gq, 0, none⟩) := by obtain ⟨gq, _, _, e, _⟩ := hC; exact ⟨gq, e⟩
  subst eq
  have hM3 : Below N w w3 := below_more hM2 hL hs2
  have hs3 : N ≤ w3.heap.size := Nat.le_trans hs2 (hL).size
  have BA_3 := Lib.hid (BA_2.out.under hL)
  clear BA_2
  have BB_3 := Lib.hid (BB_2.out.under hL)
  clear BB_2
  have SK_3 := Lib.hid (SK_2.out.below hL)
  clear SK_2
  clear hM2 hs2
  have C_3 := Lib.hid (hC)
  clear hC hL
  go_wp2_with fail
  refine (awake07 w3).mono ?_
  rintro e w4 ⟨rfl, hL⟩
  have hM4 : Below N w w4 := below_more hM3 hL hs3
  have hs4 : N ≤ w4.heap.size := Nat.le_trans hs3 (hL).size
  have BA_4 := Lib.hid (BA_3.out.under hL)
  clear BA_3
  have BB_4 := Lib.hid (BB_3.out.under hL)
  clear BB_3
  have SK_4 := Lib.hid (SK_3.out.below hL)
  clear SK_3
  have C_4 := Lib.hid (C_3.out.next hL)
  clear C_3
  clear hM3 hs3
  clear hL
  go_wp2_with (refine make_new rfl 22 5 _ _ rfl 8 (by kernel_rfl) (by kernel_rfl) .i64 .i64 rfl rfl (by omega) ?_; intro u2 hB2 hG2 hz2)
  have hL : Below w4.heap.size w4 u2 := below_none (Below.refl _ _) (Nat.le_refl _) hG2
  have hM5 : Below N w u2 := below_more hM4 hL hs4
  have hs5 : N ≤ u2.heap.size := Nat.le_trans hs4 (hL).size
  have BA_5 := Lib.hid (BA_4.out.under hL)
  clear BA_4
  have BB_5 := Lib.hid (BB_4.out.under hL)
  clear BB_4
  have SK_5 := Lib.hid (SK_4.out.below hL)
  clear SK_4
  have C_5 := Lib.hid (C_4.out.next hL)
  clear C_4
  clear hM4 hs4
  have SZ_5 := Lib.hid (hB2.slB (n := 8) rfl (by decide))
  clear hL hB2 hG2 hz2
  refine (Do_sz _ _ u2.heap.size 2 8 k (List.replicate 8 0) false u2 (.inr rfl) C_5.out (Nat.le_refl _) HF.out SZ_5.out rfl rfl).mono ?_
  rintro e w6 ⟨gz, rfl, hS, hgz, hgz2, hL⟩
  have hM6 : Below N w w6 := below_more hM5 hL hs5
  have hs6 : N ≤ w6.heap.size := Nat.le_trans hs5 (hL).size
  have BA_6 := Lib.hid (BA_5.out.under hL)
  clear BA_5
  have BB_6 := Lib.hid (BB_5.out.under hL)
  clear BB_5
  have SK_6 := Lib.hid (SK_5.out.below hL)
  clear SK_5
  have C_6 := Lib.hid (C_5.out.next hL)
  clear C_5
  have SZ_6 := Lib.hid (SZ_5.out.below hL)
  clear SZ_5
  clear hM5 hs5
  have Z_6 := Lib.hid (hS)
  clear hS hgz hgz2 hL
  clear SZ_6
  obtain ⟨zr, ezr⟩ : ∃ zr, pdo 2 k (List.replicate 8 0) false = zr := ⟨_, rfl⟩
  have hzl : zr.length = 8 := by rw [← ezr]; exact pdo_len 2 _ _ _ (.inr rfl)
  have EZR := Lib.hid (show pzer 2 k = zr from ezr)
  have HZL := Lib.hid hzl
  have hZ := Z_6.out
  rw [ezr] at hZ
  clear ezr hzl
  clear Z_6
  have Z_6 := Lib.hid (hZ)
  clear hZ
  go_wp2_with (refine make_new rfl 22 5 _ _ rfl 8 (by kernel_rfl) (by kernel_rfl) .i64 .i64 rfl rfl (by omega) ?_; intro u3 hB2 hG2 hz2)
  have hL : Below w6.heap.size w6 u3 := below_none (Below.refl _ _) (Nat.le_refl _) hG2
  have hM7 : Below N w u3 := below_more hM6 hL hs6
  have hs7 : N ≤ u3.heap.size := Nat.le_trans hs6 (hL).size
  have BA_7 := Lib.hid (BA_6.out.under hL)
  clear BA_6
  have BB_7 := Lib.hid (BB_6.out.under hL)
  clear BB_6
  have SK_7 := Lib.hid (SK_6.out.below hL)
  clear SK_6
  have C_7 := Lib.hid (C_6.out.next hL)
  clear C_6
  have Z_7 := Lib.hid (Z_6.out.below hL)
  clear Z_6
  clear hM6 hs6
  have SZ_7 := Lib.hid (hB2.slB (n := 8) rfl (by decide))
  clear hL hB2 hG2 hz2
  refine (Same_any _ _ zr (List.replicate 8 0) u3 Z_7.out SZ_7.out (by rw [HZL.out]; decide)).mono ?_
  rintro e w8 ⟨rfl, hD⟩
  have hM8 : Below N w w8 := below_more hM7 hD.below0 hs7
  have hs8 : N ≤ w8.heap.size := Nat.le_trans hs7 (hD.below0).size
  have BA_8 := Lib.hid (BA_7.out.under hD.below0)
  clear BA_7
  have BB_8 := Lib.hid (BB_7.out.under hD.below0)
  clear BB_7
  have SK_8 := Lib.hid (SK_7.out.below hD.below0)
  clear SK_7
  have C_8 := Lib.hid (C_7.out.next hD.below0)
  clear C_7
  have Z_8 := Lib.hid (Z_7.out.below hD.below0)
  clear Z_7
  have SZ_8 := Lib.hid (SZ_7.out.below hD.below0)
  clear SZ_7
  clear hM7 hs7
  clear hD
  clear SZ_8
  clear Z_8
  by_cases hzz : zr = List.replicate 8 0
  · rw [show (zr == List.replicate 8 0) = true from by rw [hzz]; exact beq_self_eq_true _]
    clear hzz
    go_wp2_with fail
    go_ret
    exact ⟨rfl, by rw [HN.out]; exact hM8⟩
  rw [show (zr == List.replicate 8 0) = false from beq_eq_false_iff_ne.2 hzz]
  have LPx := Lib.hid (LP.out (by rw [EZR.out]; exact hzz))
  clear hzz LP
  go_wp2_with fail
  refine (Cmac_lit 8 8 rfl _ _ _ 2 k a w8 (.inr rfl) C_8.out (Nat.le_refl _) HF.out (BA_8.out.slB HA.out (by decide)) (by rw [HA.out]; decide) (by decide) (by decide)).mono ?_
  rintro e w9 ⟨v, rfl, hO, hL⟩
  have hc8 : (pcmac 2 k a).take 8 = pcmac 2 k a := List.take_of_length_le (by rw [pcmac_len 2 k _ (.inr rfl)]; decide)
  rw [hc8] at hO
  obtain ⟨AX, cX, rfl⟩ := hO.slB.form (L := 8) (pcmac_len 2 k _ (.inr rfl))
  have hM9 : Below N w w9 := below_more hM8 hL hs8
  have hs9 : N ≤ w9.heap.size := Nat.le_trans hs8 (hL).size
  have BA_9 := Lib.hid (BA_8.out.under hL)
  clear BA_8
  have BB_9 := Lib.hid (BB_8.out.under hL)
  clear BB_8
  have SK_9 := Lib.hid (SK_8.out.below hL)
  clear SK_8
  have C_9 := Lib.hid (C_8.out.next hL)
  clear C_8
  clear hM8 hs8
  have X_9 := Lib.hid (hO.slB)
  clear hO hL hc8
  go_wp2_with fail
  refine (Cmac_lit 8 8 rfl _ _ _ 2 k b w9 (.inr rfl) C_9.out (Nat.le_refl _) HF.out (BB_9.out.slB HB.out (by decide)) (by rw [HB.out]; decide) (by decide) (by decide)).mono ?_
  rintro e w10 ⟨v, rfl, hO, hL⟩
  have hc8 : (pcmac 2 k b).take 8 = pcmac 2 k b := List.take_of_length_le (by rw [pcmac_len 2 k _ (.inr rfl)]; decide)
  rw [hc8] at hO
  obtain ⟨AY, cY, rfl⟩ := hO.slB.form (L := 8) (pcmac_len 2 k _ (.inr rfl))
  have hM10 : Below N w w10 := below_more hM9 hL hs9
  have hs10 : N ≤ w10.heap.size := Nat.le_trans hs9 (hL).size
  have BA_10 := Lib.hid (BA_9.out.under hL)
  clear BA_9
  have BB_10 := Lib.hid (BB_9.out.under hL)
  clear BB_9
  have SK_10 := Lib.hid (SK_9.out.below hL)
  clear SK_9
  have C_10 := Lib.hid (C_9.out.next hL)
  clear C_9
  have X_10 := Lib.hid (X_9.out.below hL)
  clear X_9
  clear hM9 hs9
  have Y_10 := Lib.hid (hO.slB)
  clear hO hL hc8
  have hn8 : (n : Int) ≤ 8 := by omega
  go_wp2_with fail
  refine (Cmac_lit 8 8 rfl _ _ _ 2 k (a.take n) w10 (.inr rfl) C_10.out (Nat.le_refl _) HF.out (BA_10.out.slTo HA.out (by decide) (by omega)) HTA.out (by decide) (by decide)).mono ?_
  rintro e w11 ⟨v, rfl, hO, hL⟩
  have hc8 : (pcmac 2 k (a.take n)).take 8 = pcmac 2 k (a.take n) := List.take_of_length_le (by rw [pcmac_len 2 k _ (.inr rfl)]; decide)
  rw [hc8] at hO
  obtain ⟨AU, cU, rfl⟩ := hO.slB.form (L := 8) (pcmac_len 2 k _ (.inr rfl))
  have hM11 : Below N w w11 := below_more hM10 hL hs10
  have hs11 : N ≤ w11.heap.size := Nat.le_trans hs10 (hL).size
  have BA_11 := Lib.hid (BA_10.out.under hL)
  clear BA_10
  have BB_11 := Lib.hid (BB_10.out.under hL)
  clear BB_10
  have SK_11 := Lib.hid (SK_10.out.below hL)
  clear SK_10
  have C_11 := Lib.hid (C_10.out.next hL)
  clear C_10
  have X_11 := Lib.hid (X_10.out.below hL)
  clear X_10
  have Y_11 := Lib.hid (Y_10.out.below hL)
  clear Y_10
  clear hM10 hs10
  have U_11 := Lib.hid (hO.slB)
  clear hO hL hc8
  go_wp2_with fail
  refine (Cmac_lit 8 8 rfl _ _ _ 2 k (b.take n) w11 (.inr rfl) C_11.out (Nat.le_refl _) HF.out (BB_11.out.slTo HB.out (by decide) (by omega)) HTB.out (by decide) (by decide)).mono ?_
  rintro e w12 ⟨v, rfl, hO, hL⟩
  have hc8 : (pcmac 2 k (b.take n)).take 8 = pcmac 2 k (b.take n) := List.take_of_length_le (by rw [pcmac_len 2 k _ (.inr rfl)]; decide)
  rw [hc8] at hO
  obtain ⟨AV, cV, rfl⟩ := hO.slB.form (L := 8) (pcmac_len 2 k _ (.inr rfl))
  have hM12 : Below N w w12 := below_more hM11 hL hs11
  have hs12 : N ≤ w12.heap.size := Nat.le_trans hs11 (hL).size
  have BA_12 := Lib.hid (BA_11.out.under hL)
  clear BA_11
  have BB_12 := Lib.hid (BB_11.out.under hL)
  clear BB_11
  have SK_12 := Lib.hid (SK_11.out.below hL)
  clear SK_11
  have C_12 := Lib.hid (C_11.out.next hL)
  clear C_11
  have X_12 := Lib.hid (X_11.out.below hL)
  clear X_11
  have Y_12 := Lib.hid (Y_11.out.below hL)
  clear Y_11
  have U_12 := Lib.hid (U_11.out.below hL)
  clear U_11
  clear hM11 hs11
  have V_12 := Lib.hid (hO.slB)
  clear hO hL hc8
  go_wp2_with fail
  obtain ⟨p, ep⟩ : ∃ p, (a == b) = p := ⟨_, rfl⟩
  obtain ⟨q, eq⟩ : ∃ q, (a.take n == b.take n) = q := ⟨_, rfl⟩
  have EP := Lib.hid ep
  have EQ := Lib.hid eq
  have LW2 := Lib.hid (LW.out.trans ep)
  have LS2 := Lib.hid (LS.out.trans eq)
  have LR2 := Lib.hid (LR.out.trans eq)
  rw [ep] at hq
  have hpp : (p != p) = false := bne_self_eq_false _
  have hqq : (q != q) = false := bne_self_eq_false _
  have hqe : (q == q) = true := beq_self_eq_true _
  clear ep eq
  have S1 := Lib.hid (show ∀ m, Calls Try.prog 14 #[.slice AX 8 cX, .slice AY 8 cY] (w12.drewN m) (fun e w2 => e = .returned (.bool p) ∧ ∃ m2, w2 = w12.drewN m2) from fun m => Calls.quiet_of (by have h := Same_any _ _ (pcmac 2 k a) (pcmac 2 k b) (w12.drewN m) (X_12.out.drewN m) (Y_12.out.drewN m) (by rw [pcmac_len 2 k _ (.inr rfl)]; decide); rw [LW2.out] at h; exact h))
  have S2 := Lib.hid (show ∀ m, Calls Try.prog 14 #[.slice AU 8 cU, .slice AV 8 cV] (w12.drewN m) (fun e w2 => e = .returned (.bool q) ∧ ∃ m2, w2 = w12.drewN m2) from fun m => Calls.quiet_of (by have h := Same_any _ _ (pcmac 2 k (a.take n)) (pcmac 2 k (b.take n)) (w12.drewN m) (U_12.out.drewN m) (V_12.out.drewN m) (by rw [pcmac_len 2 k _ (.inr rfl)]; decide); rw [LS2.out] at h; exact h))
  have S3 := Lib.hid (show ∀ m, Calls Try.prog 14 #[.slice (some ⟨N, 0, none⟩) n 8, .slice (some ⟨N + 1, 0, none⟩) n 8] (w12.drewN m) (fun e w2 => e = .returned (.bool q) ∧ ∃ m2, w2 = w12.drewN m2) from fun m => Calls.quiet_of (by have h := Same_any _ _ (a.take n) (b.take n) (w12.drewN m) ((BA_12.out.slTo HA.out (by decide) (by omega)).drewN m) ((BB_12.out.slTo HB.out (by decide) (by omega)).drewN m) (by have := HTA.out; omega); rw [EQ.out] at h; exact h))
  refine wp_region_quiet_lit (by kernel_rfl) (by kernel_rfl) ?_
  repeat (first | (refine quiet_load (by kernel_rfl) 23 _ rfl N 0 8 5 a (by rfl) (fun w2 hw2 => by obtain ⟨m, rfl⟩ := hw2; exact BA_12.out.rd0) HA.out (by kernel_rfl) (by kernel_rfl) ?_; simp only [Act.put, List.setIfInBounds_toArray, List.set_cons_succ, List.set_cons_zero]) | (refine quiet_load (by kernel_rfl) 23 _ rfl (N + 1) 0 8 5 b (by rfl) (fun w2 hw2 => by obtain ⟨m, rfl⟩ := hw2; exact BB_12.out.rd0) HB.out (by kernel_rfl) (by kernel_rfl) ?_; simp only [Act.put, List.setIfInBounds_toArray, List.set_cons_succ, List.set_cons_zero]) | go_big_quiet_step ((first | (with_reducible exact S1.out _) | (with_reducible exact S2.out _) | (with_reducible exact S3.out _))))
  refine wpQuiet_nil ?_
  rintro _ ⟨nq, rfl⟩
  have hL : Below w12.heap.size w12 (w12.drewN nq) := Drawn.below0 ⟨nq, rfl⟩
  generalize w12.drewN nq = w13 at hL ⊢
  have hM13 : Below N w w13 := below_more hM12 hL hs12
  have hs13 : N ≤ w13.heap.size := Nat.le_trans hs12 (hL).size
  have BA_13 := Lib.hid (BA_12.out.under hL)
  clear BA_12
  have BB_13 := Lib.hid (BB_12.out.under hL)
  clear BB_12
  have SK_13 := Lib.hid (SK_12.out.below hL)
  clear SK_12
  have C_13 := Lib.hid (C_12.out.next hL)
  clear C_12
  have X_13 := Lib.hid (X_12.out.below hL)
  clear X_12
  have Y_13 := Lib.hid (Y_12.out.below hL)
  clear Y_12
  have U_13 := Lib.hid (U_12.out.below hL)
  clear U_12
  have V_13 := Lib.hid (V_12.out.below hL)
  clear V_12
  clear hM12 hs12
  clear hL
  go_wp2_with fail
  refine (Pad_lit 8 8 rfl _ (a.take n) w13 (BA_13.out.slTo HA.out (by decide) (by omega)) (by have := HTA.out; omega) (by decide) (by decide)).mono ?_
  rintro e w14 ⟨v, rfl, hO, hL⟩
  have hpl : (ppad (a.take n) 8).length = 8 := (ppad_short _ _ (by rw [List.length_take]; omega)).2
  obtain ⟨Ap, cp, rfl⟩ := hO.slB.form hpl
  have HPL := Lib.hid hpl
  have hM14 : Below N w w14 := below_more hM13 hL hs13
  have hs14 : N ≤ w14.heap.size := Nat.le_trans hs13 (hL).size
  have BA_14 := Lib.hid (BA_13.out.under hL)
  clear BA_13
  have BB_14 := Lib.hid (BB_13.out.under hL)
  clear BB_13
  have SK_14 := Lib.hid (SK_13.out.below hL)
  clear SK_13
  have C_14 := Lib.hid (C_13.out.next hL)
  clear C_13
  have X_14 := Lib.hid (X_13.out.below hL)
  clear X_13
  have Y_14 := Lib.hid (Y_13.out.below hL)
  clear Y_13
  have U_14 := Lib.hid (U_13.out.below hL)
  clear U_13
  have V_14 := Lib.hid (V_13.out.below hL)
  clear V_13
  clear hM13 hs13
  have P_14 := Lib.hid (hO.slB)
  clear hO hL hpl
  go_wp2_with fail
  refine (Cmac_lit 8 8 rfl _ _ _ 2 k (ppad (a.take n) 8) w14 (.inr rfl) C_14.out (Nat.le_refl _) HF.out P_14.out (by rw [HPL.out]; decide) (by decide) (by decide)).mono ?_
  rintro e w15 ⟨v, rfl, hO, hL⟩
  have hc8 : (pcmac 2 k (ppad (a.take n) 8)).take 8 = pcmac 2 k (ppad (a.take n) 8) := List.take_of_length_le (by rw [pcmac_len 2 k _ (.inr rfl)]; decide)
  rw [hc8] at hO
  obtain ⟨AW, cW, rfl⟩ := hO.slB.form (L := 8) (pcmac_len 2 k _ (.inr rfl))
  have hM15 : Below N w w15 := below_more hM14 hL hs14
  have hs15 : N ≤ w15.heap.size := Nat.le_trans hs14 (hL).size
  have BA_15 := Lib.hid (BA_14.out.under hL)
  clear BA_14
  have BB_15 := Lib.hid (BB_14.out.under hL)
  clear BB_14
  have SK_15 := Lib.hid (SK_14.out.below hL)
  clear SK_14
  have C_15 := Lib.hid (C_14.out.next hL)
  clear C_14
  have X_15 := Lib.hid (X_14.out.below hL)
  clear X_14
  have Y_15 := Lib.hid (Y_14.out.below hL)
  clear Y_14
  have U_15 := Lib.hid (U_14.out.below hL)
  clear U_14
  have V_15 := Lib.hid (V_14.out.below hL)
  clear V_14
  have P_15 := Lib.hid (P_14.out.below hL)
  clear P_14
  clear hM14 hs14
  have W_15 := Lib.hid (hO.slB)
  clear hO hL hc8
  go_wp2_with fail
  go_region_held3 (fun _ => True) (trivial) ((go_at_call 17; refine (Retail_lit 8 8 rfl _ _ (k.take 16) (a.take n) _ ((SK_15.out.drewN 1).take (by rw [HKL.out]; decide)) (by rw [List.length_take, HKL.out]; rfl) ((BA_15.out.drewN 1).slTo HA.out (by decide) (by omega)) HTA.out (by decide) (by decide)).mono ?_; rintro e w16 ⟨v, rfl, hO, hLx⟩))
  have hL : Below w15.heap.size w15 w16 := below_more (Drawn.below0 ⟨1, rfl⟩) hLx (Nat.le_refl _)
  have hc8 : (pretail (k.take 16) (a.take n)).take 8 = pretail (k.take 16) (a.take n) := List.take_of_length_le (by rw [pretail_short _ _ (by rw [List.length_take]; omega), ptriple_len]; decide)
  rw [hc8] at hO
  have hr8 : (pretail (k.take 16) (a.take n)).length = 8 := by rw [pretail_short _ _ (by rw [List.length_take]; omega), ptriple_len]
  obtain ⟨AR1, cR1, rfl⟩ := hO.slB.form hr8
  have HR1L := Lib.hid hr8
  have hM16 : Below N w w16 := below_more hM15 hL hs15
  have hs16 : N ≤ w16.heap.size := Nat.le_trans hs15 (hL).size
  have BA_16 := Lib.hid (BA_15.out.under hL)
  clear BA_15
  have BB_16 := Lib.hid (BB_15.out.under hL)
  clear BB_15
  have SK_16 := Lib.hid (SK_15.out.below hL)
  clear SK_15
  have C_16 := Lib.hid (C_15.out.next hL)
  clear C_15
  have X_16 := Lib.hid (X_15.out.below hL)
  clear X_15
  have Y_16 := Lib.hid (Y_15.out.below hL)
  clear Y_15
  have U_16 := Lib.hid (U_15.out.below hL)
  clear U_15
  have V_16 := Lib.hid (V_15.out.below hL)
  clear V_15
  have P_16 := Lib.hid (P_15.out.below hL)
  clear P_15
  have W_16 := Lib.hid (W_15.out.below hL)
  clear W_15
  clear hM15 hs15
  have R1_16 := Lib.hid (hO.slB)
  clear hO hL hLx hc8 hr8
  go_wp2_with fail
  go_region_held3 (fun _ => True) (trivial) ((go_at_call 17; refine (Retail_lit 8 8 rfl _ _ (k.take 16) (b.take n) _ ((SK_16.out.drewN 1).take (by rw [HKL.out]; decide)) (by rw [List.length_take, HKL.out]; rfl) ((BB_16.out.drewN 1).slTo HB.out (by decide) (by omega)) HTB.out (by decide) (by decide)).mono ?_; rintro e w17 ⟨v, rfl, hO, hLx⟩))
  have hL : Below w16.heap.size w16 w17 := below_more (Drawn.below0 ⟨1, rfl⟩) hLx (Nat.le_refl _)
  have hc8 : (pretail (k.take 16) (b.take n)).take 8 = pretail (k.take 16) (b.take n) := List.take_of_length_le (by rw [pretail_short _ _ (by rw [List.length_take]; omega), ptriple_len]; decide)
  rw [hc8] at hO
  have hr8 : (pretail (k.take 16) (b.take n)).length = 8 := by rw [pretail_short _ _ (by rw [List.length_take]; omega), ptriple_len]
  obtain ⟨AR2, cR2, rfl⟩ := hO.slB.form hr8
  have HR2L := Lib.hid hr8
  have hM17 : Below N w w17 := below_more hM16 hL hs16
  have hs17 : N ≤ w17.heap.size := Nat.le_trans hs16 (hL).size
  have BA_17 := Lib.hid (BA_16.out.under hL)
  clear BA_16
  have BB_17 := Lib.hid (BB_16.out.under hL)
  clear BB_16
  have SK_17 := Lib.hid (SK_16.out.below hL)
  clear SK_16
  have C_17 := Lib.hid (C_16.out.next hL)
  clear C_16
  have X_17 := Lib.hid (X_16.out.below hL)
  clear X_16
  have Y_17 := Lib.hid (Y_16.out.below hL)
  clear Y_16
  have U_17 := Lib.hid (U_16.out.below hL)
  clear U_16
  have V_17 := Lib.hid (V_16.out.below hL)
  clear V_16
  have P_17 := Lib.hid (P_16.out.below hL)
  clear P_16
  have W_17 := Lib.hid (W_16.out.below hL)
  clear W_16
  have R1_17 := Lib.hid (R1_16.out.below hL)
  clear R1_16
  clear hM16 hs16
  have R2_17 := Lib.hid (hO.slB)
  clear hO hL hLx hc8 hr8
  go_wp2_with fail
  have S4 := Lib.hid (show ∀ m, Calls Try.prog 14 #[.slice AW 8 cW, .slice AU 8 cU] (w17.drewN m) (fun e w2 => e = .returned (.bool false) ∧ ∃ m2, w2 = w17.drewN m2) from fun m => Calls.quiet_of (by have h := Same_any _ _ (pcmac 2 k (ppad (a.take n) 8)) (pcmac 2 k (a.take n)) (w17.drewN m) (W_17.out.drewN m) (U_17.out.drewN m) (by rw [pcmac_len 2 k _ (.inr rfl)]; decide); rw [LPx.out] at h; exact h))
  have S5 := Lib.hid (show ∀ m, Calls Try.prog 14 #[.slice AR1 8 cR1, .slice AR2 8 cR2] (w17.drewN m) (fun e w2 => e = .returned (.bool q) ∧ ∃ m2, w2 = w17.drewN m2) from fun m => Calls.quiet_of (by have h := Same_any _ _ (pretail (k.take 16) (a.take n)) (pretail (k.take 16) (b.take n)) (w17.drewN m) (R1_17.out.drewN m) (R2_17.out.drewN m) (by rw [HR1L.out]; decide); rw [LR2.out] at h; exact h))
  have S6 := Lib.hid (show ∀ m, Calls Try.prog 14 #[.slice (some ⟨N, 0, none⟩) n 8, .slice (some ⟨N + 1, 0, none⟩) n 8] (w17.drewN m) (fun e w2 => e = .returned (.bool q) ∧ ∃ m2, w2 = w17.drewN m2) from fun m => Calls.quiet_of (by have h := Same_any _ _ (a.take n) (b.take n) (w17.drewN m) ((BA_17.out.slTo HA.out (by decide) (by omega)).drewN m) ((BB_17.out.slTo HB.out (by decide) (by omega)).drewN m) (by have := HTA.out; omega); rw [EQ.out] at h; exact h))
  refine wp_region_quiet_lit (by kernel_rfl) (by kernel_rfl) ?_
  repeat (first | go_big_quiet_step ((first | (with_reducible exact S4.out _) | (with_reducible exact S5.out _) | (with_reducible exact S6.out _))))
  refine wpQuiet_nil ?_
  rintro _ ⟨nq, rfl⟩
  have hL : Below w17.heap.size w17 (w17.drewN nq) := Drawn.below0 ⟨nq, rfl⟩
  generalize w17.drewN nq = w18 at hL ⊢
  have hM18 : Below N w w18 := below_more hM17 hL hs17
  have hs18 : N ≤ w18.heap.size := Nat.le_trans hs17 (hL).size
  have BA_18 := Lib.hid (BA_17.out.under hL)
  clear BA_17
  have BB_18 := Lib.hid (BB_17.out.under hL)
  clear BB_17
  have SK_18 := Lib.hid (SK_17.out.below hL)
  clear SK_17
  have C_18 := Lib.hid (C_17.out.next hL)
  clear C_17
  have X_18 := Lib.hid (X_17.out.below hL)
  clear X_17
  have Y_18 := Lib.hid (Y_17.out.below hL)
  clear Y_17
  have U_18 := Lib.hid (U_17.out.below hL)
  clear U_17
  have V_18 := Lib.hid (V_17.out.below hL)
  clear V_17
  have P_18 := Lib.hid (P_17.out.below hL)
  clear P_17
  have W_18 := Lib.hid (W_17.out.below hL)
  clear W_17
  have R1_18 := Lib.hid (R1_17.out.below hL)
  clear R1_17
  have R2_18 := Lib.hid (R2_17.out.below hL)
  clear R2_17
  clear hM17 hs17
  clear hL
  go_wp2_with fail
  go_ret
  exact ⟨rfl, by rw [HN.out]; exact hM18⟩
end Go.Proofs.Ytjbdhnmkeaogcaa
