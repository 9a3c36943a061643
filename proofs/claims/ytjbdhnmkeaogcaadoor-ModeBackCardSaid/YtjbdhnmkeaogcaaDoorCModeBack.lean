/- For whatever kind, key, start, text and direction the law ModeBack of the layer of modes returns true (what is enciphered, and deciphered, is what it was, alone and chained), and its arguments read as they did; the variable errors.errorType starts as the program lays it. -/
import Derived.Test.YtjbdhnmkeaogcaaDoorKM1
import Derived.Test.YtjbdhnmkeaogcaaDoorKM2
import Derived.Test.YtjbdhnmkeaogcaaDoorKB0
import Derived.WalkKit
import Derived.ProofKit
import Derived.OpenShut
import Derived.ShutString
import Derived.ChangeOld
import Derived.SizedLaws
import Derived.ChangeSlices
import Derived.Test.YtjbdhnmkeaogcaaDoorRows
import Derived.Test.YtjbdhnmkeaogcaaDoorKB6
import Derived.ChangeSame
import Derived.ChangeVars
import Derived.JoinedOf
import Derived.RowKit
import Derived.RowKitTokens
import Derived.LaidLaws
import Derived.LaidHandle
import Derived.Stop.Joined
import Derived.SevenTiedAt
import Derived.Test.YtjbdhnmkeaogcaaDoorCards
import Derived.Test.YtjbdhnmkeaogcaaDoorTie
set_option linter.unusedVariables false
set_option linter.unusedSimpArgs false
namespace Go.Proofs.YtjbdhnmkeaogcaaDoor
open Go.RowKit Lk
set_option maxHeartbeats 3200000 in
set_option maxRecDepth 100000 in
theorem ModeBack_k1 (kd : UInt8) (vk : Value) (key start : List UInt8) (vt : Value) (text : List UInt8) (back : Bool) (w : World) (hE : Et w) (hk : SlB w vk key) (hst : start.length = 16) (ht : SlB w vt text) (hz : bv kd % 2 = 0) (hb : ¬ key.length ≤ 100) : Calls Tryd.prog 10 #[.int .u8 (bv kd), vk, .agg (Bs start), vt, .bool back] w fun e w' => e = .returned (.bool true) ∧ Below w.heap.size w w' := by
  obtain ⟨N, hN⟩ : ∃ N, w.heap.size = N := ⟨_, rfl⟩
  have HN := Lib.hid hN
  obtain ⟨L, hL⟩ : ∃ L, text.length = L := ⟨_, rfl⟩
  obtain ⟨M, hM⟩ : ∃ M, key.length = M := ⟨_, rfl⟩
  have EL := Lib.hid hL
  have EM := Lib.hid hM
  have HK := Lib.hid hk
  have HT := Lib.hid ht
  have HST := Lib.hid hst
  obtain ⟨A, c, rfl, _, p1, p2, _⟩ := hk
  obtain ⟨B, d, rfl, _, q1, q2, _⟩ := ht
  rw [hM] at p1 HK
  rw [hL] at q1 HT
  rw [hM, hL]
  have z0 := bv_ge kd
  have z1 := bv_lt kd
  generalize bv kd = z at z0 z1 hz ⊢
  clear hL hM hst
  rw [EM.out] at hb
  have hM0 : Below N w w := Below.refl _ _
  have hs0 : N ≤ w.heap.size := by omega
  have E_0 := Lib.hid (hE)
  have K_0 := Lib.hid (HK.out)
  have T_0 := Lib.hid (HT.out)
  clear hE HK HT
  go_enter Tryd.func10, Tryd.ntmps10
  go_wp2_with ((with_reducible show wpList _ _ _ _ _ w); refine box_blk (w := w) rfl 41 _ rfl start rfl ?_; intro u0 hA0 hG0 hz0; rw [hN] at hA0 hz0 ⊢)
  have hL : Below w.heap.size w u0 := below_none (Below.refl _ _) (Nat.le_refl _) hG0
  clear hG0 hz0
  have hM1 : Below N w u0 := below_more hM0 hL hs0
  have hs1 : N ≤ u0.heap.size := Nat.le_trans hs0 (hL).size
  have E_1 := Lib.hid (E_0.out.below hL)
  clear E_0
  have K_1 := Lib.hid (K_0.out.below hL)
  clear K_0
  have T_1 := Lib.hid (T_0.out.below hL)
  clear T_0
  clear hM0 hs0
  clear hL
  have S_1 := Lib.hid (hA0)
  clear hA0
  go_wp2_with fail
  refine (awake06 u0 E_1.out).mono ?_
  rintro e w2 ⟨rfl, hL⟩
  have hM2 : Below N w w2 := below_more hM1 hL hs1
  have hs2 : N ≤ w2.heap.size := Nat.le_trans hs1 (hL).size
  have E_2 := Lib.hid (E_1.out.below hL)
  clear E_1
  have K_2 := Lib.hid (K_1.out.below hL)
  clear K_1
  have T_2 := Lib.hid (T_1.out.below hL)
  clear T_1
  have S_2 := Lib.hid (S_1.out.under hL)
  clear S_1
  clear hM1 hs1
  clear hL
  go_wp2_with fail
  refine (awake06 w2 E_2.out).mono ?_
  rintro e w3 ⟨rfl, hL⟩
  have hM3 : Below N w w3 := below_more hM2 hL hs2
  have hs3 : N ≤ w3.heap.size := Nat.le_trans hs2 (hL).size
  have E_3 := Lib.hid (E_2.out.below hL)
  clear E_2
  have K_3 := Lib.hid (K_2.out.below hL)
  clear K_2
  have T_3 := Lib.hid (T_2.out.below hL)
  clear T_2
  have S_3 := Lib.hid (S_2.out.under hL)
  clear S_2
  clear hM2 hs2
  clear hL
  go_wp2_with fail
  go_ret
  exact ⟨rfl, by rw [HN.out]; exact hM3⟩
set_option maxHeartbeats 3200000 in
set_option maxRecDepth 100000 in
theorem ModeBack_t1 (kd : UInt8) (vk : Value) (key start : List UInt8) (vt : Value) (text : List UInt8) (back : Bool) (w : World) (hE : Et w) (hk : SlB w vk key) (hst : start.length = 16) (ht : SlB w vt text) (hz : bv kd % 2 = 0) (hb1 : key.length ≤ 100) (hb : ¬ text.length ≤ 200) : Calls Tryd.prog 10 #[.int .u8 (bv kd), vk, .agg (Bs start), vt, .bool back] w fun e w' => e = .returned (.bool true) ∧ Below w.heap.size w w' := by
  obtain ⟨N, hN⟩ : ∃ N, w.heap.size = N := ⟨_, rfl⟩
  have HN := Lib.hid hN
  obtain ⟨L, hL⟩ : ∃ L, text.length = L := ⟨_, rfl⟩
  obtain ⟨M, hM⟩ : ∃ M, key.length = M := ⟨_, rfl⟩
  have EL := Lib.hid hL
  have EM := Lib.hid hM
  have HK := Lib.hid hk
  have HT := Lib.hid ht
  have HST := Lib.hid hst
  obtain ⟨A, c, rfl, _, p1, p2, _⟩ := hk
  obtain ⟨B, d, rfl, _, q1, q2, _⟩ := ht
  rw [hM] at p1 HK
  rw [hL] at q1 HT
  rw [hM, hL]
  have z0 := bv_ge kd
  have z1 := bv_lt kd
  generalize bv kd = z at z0 z1 hz ⊢
  clear hL hM hst
  rw [EM.out] at hb1
  rw [EL.out] at hb
  have hM0 : Below N w w := Below.refl _ _
  have hs0 : N ≤ w.heap.size := by omega
  have E_0 := Lib.hid (hE)
  have K_0 := Lib.hid (HK.out)
  have T_0 := Lib.hid (HT.out)
  clear hE HK HT
  go_enter Tryd.func10, Tryd.ntmps10
  go_wp2_with ((with_reducible show wpList _ _ _ _ _ w); refine box_blk (w := w) rfl 41 _ rfl start rfl ?_; intro u0 hA0 hG0 hz0; rw [hN] at hA0 hz0 ⊢)
  have hL : Below w.heap.size w u0 := below_none (Below.refl _ _) (Nat.le_refl _) hG0
  clear hG0 hz0
  have hM1 : Below N w u0 := below_more hM0 hL hs0
  have hs1 : N ≤ u0.heap.size := Nat.le_trans hs0 (hL).size
  have E_1 := Lib.hid (E_0.out.below hL)
  clear E_0
  have K_1 := Lib.hid (K_0.out.below hL)
  clear K_0
  have T_1 := Lib.hid (T_0.out.below hL)
  clear T_0
  clear hM0 hs0
  clear hL
  have S_1 := Lib.hid (hA0)
  clear hA0
  go_wp2_with fail
  refine (awake06 u0 E_1.out).mono ?_
  rintro e w2 ⟨rfl, hL⟩
  have hM2 : Below N w w2 := below_more hM1 hL hs1
  have hs2 : N ≤ w2.heap.size := Nat.le_trans hs1 (hL).size
  have E_2 := Lib.hid (E_1.out.below hL)
  clear E_1
  have K_2 := Lib.hid (K_1.out.below hL)
  clear K_1
  have T_2 := Lib.hid (T_1.out.below hL)
  clear T_1
  have S_2 := Lib.hid (S_1.out.under hL)
  clear S_1
  clear hM1 hs1
  clear hL
  go_wp2_with fail
  refine (awake06 w2 E_2.out).mono ?_
  rintro e w3 ⟨rfl, hL⟩
  have hM3 : Below N w w3 := below_more hM2 hL hs2
  have hs3 : N ≤ w3.heap.size := Nat.le_trans hs2 (hL).size
  have E_3 := Lib.hid (E_2.out.below hL)
  clear E_2
  have K_3 := Lib.hid (K_2.out.below hL)
  clear K_2
  have T_3 := Lib.hid (T_2.out.below hL)
  clear T_2
  have S_3 := Lib.hid (S_2.out.under hL)
  clear S_2
  clear hM2 hs2
  clear hL
  go_wp2_with fail
  go_ret
  exact ⟨rfl, by rw [HN.out]; exact hM3⟩
set_option maxHeartbeats 12800000 in
set_option maxRecDepth 100000 in
theorem ModeBack_1 (kd : UInt8) (vk : Value) (key start : List UInt8) (vt : Value) (text : List UInt8) (back : Bool) (w : World) (hE : Et w) (hk : SlB w vk key) (hst : start.length = 16) (ht : SlB w vt text) (hz : bv kd % 2 = 0) (hb1 : key.length ≤ 100) (hb2 : text.length ≤ 200) : Calls Tryd.prog 10 #[.int .u8 (bv kd), vk, .agg (Bs start), vt, .bool back] w fun e w' => e = .returned (.bool true) ∧ Below w.heap.size w w' := by
  obtain ⟨N, hN⟩ : ∃ N, w.heap.size = N := ⟨_, rfl⟩
  have HN := Lib.hid hN
  obtain ⟨L, hL⟩ : ∃ L, text.length = L := ⟨_, rfl⟩
  obtain ⟨M, hM⟩ : ∃ M, key.length = M := ⟨_, rfl⟩
  have EL := Lib.hid hL
  have EM := Lib.hid hM
  have HK := Lib.hid hk
  have HT := Lib.hid ht
  have HST := Lib.hid hst
  obtain ⟨A, c, rfl, _, p1, p2, _⟩ := hk
  obtain ⟨B, d, rfl, _, q1, q2, _⟩ := ht
  rw [hM] at p1 HK
  rw [hL] at q1 HT
  rw [hM, hL]
  have z0 := bv_ge kd
  have z1 := bv_lt kd
  generalize bv kd = z at z0 z1 hz ⊢
  clear hL hM hst
  rw [EM.out] at hb1
  rw [EL.out] at hb2
  obtain ⟨m, em⟩ : ∃ m, L / 16 = m := ⟨_, rfl⟩
  have hT : (L : Int) / 16 * 16 = ((16 * m : Nat) : Int) := by omega
  have hT1 : 16 * m ≤ L := by omega
  have hT2 : 16 * m ≤ d := by omega
  have hT3 : ((16 * m : Nat) : Int) ≤ (d : Int) := by omega
  have hmx : m ≤ 100000 := by omega
  have HPR := Lib.hid (show (kright key 16).length = 16 from kright_len _ _)
  have HTL := Lib.hid (show (text.take (16 * m)).length = 16 * m by rw [List.length_take, EL.out]; omega)
  clear em
  have hM0 : Below N w w := Below.refl _ _
  have hs0 : N ≤ w.heap.size := by omega
  have E_0 := Lib.hid (hE)
  have K_0 := Lib.hid (HK.out)
  have T_0 := Lib.hid (HT.out)
  clear hE HK HT
  go_enter Tryd.func10, Tryd.ntmps10
  go_wp2_with ((with_reducible show wpList _ _ _ _ _ w); refine box_blk (w := w) rfl 41 _ rfl start rfl ?_; intro u0 hA0 hG0 hz0; rw [hN] at hA0 hz0 ⊢)
  have hL : Below w.heap.size w u0 := below_none (Below.refl _ _) (Nat.le_refl _) hG0
  clear hG0 hz0
  have hM1 : Below N w u0 := below_more hM0 hL hs0
  have hs1 : N ≤ u0.heap.size := Nat.le_trans hs0 (hL).size
  have E_1 := Lib.hid (E_0.out.below hL)
  clear E_0
  have K_1 := Lib.hid (K_0.out.below hL)
  clear K_0
  have T_1 := Lib.hid (T_0.out.below hL)
  clear T_0
  clear hM0 hs0
  clear hL
  have S_1 := Lib.hid (hA0)
  clear hA0
  go_wp2_with fail
  refine (awake06 u0 E_1.out).mono ?_
  rintro e w2 ⟨rfl, hL⟩
  have hM2 : Below N w w2 := below_more hM1 hL hs1
  have hs2 : N ≤ w2.heap.size := Nat.le_trans hs1 (hL).size
  have E_2 := Lib.hid (E_1.out.below hL)
  clear E_1
  have K_2 := Lib.hid (K_1.out.below hL)
  clear K_1
  have T_2 := Lib.hid (T_1.out.below hL)
  clear T_1
  have S_2 := Lib.hid (S_1.out.under hL)
  clear S_1
  clear hM1 hs1
  clear hL
  go_wp2_with fail
  refine (right06 1 16 (by decide) _ key w2 K_2.out).mono ?_
  rintro e w3 ⟨vR, rfl, hO, hL⟩
  obtain ⟨AR, cR, rfl, hcR⟩ := hO.slB.formc HPR.out
  have hM3 : Below N w w3 := below_more hM2 hL hs2
  have hs3 : N ≤ w3.heap.size := Nat.le_trans hs2 (hL).size
  have E_3 := Lib.hid (E_2.out.below hL)
  clear E_2
  have K_3 := Lib.hid (K_2.out.below hL)
  clear K_2
  have T_3 := Lib.hid (T_2.out.below hL)
  clear T_2
  have S_3 := Lib.hid (S_2.out.under hL)
  clear S_2
  clear hM2 hs2
  have R_3 := Lib.hid (hO)
  clear hL hO
  go_wp2_with fail
  refine (cipher06_1 _ (.slice none 0 0) (kright key 16) [] w3 (by rw [HPR.out]; decide) R_3.out.slB (slB_nil _) (by decide)).mono ?_
  rintro e w4 ⟨q, rfl, hC, hL⟩
  obtain ⟨gq, egq⟩ : ∃ gq, q = .pointer (some ⟨gq, 0, none⟩) := by obtain ⟨gq, _, _, e, _⟩ := hC; exact ⟨gq, e⟩
  subst egq
  have hM4 : Below N w w4 := below_more hM3 hL hs3
  have hs4 : N ≤ w4.heap.size := Nat.le_trans hs3 (hL).size
  have E_4 := Lib.hid (E_3.out.below hL)
  clear E_3
  have K_4 := Lib.hid (K_3.out.below hL)
  clear K_3
  have T_4 := Lib.hid (T_3.out.below hL)
  clear T_3
  have S_4 := Lib.hid (S_3.out.under hL)
  clear S_3
  have R_4 := Lib.hid (R_3.out.under hL)
  clear R_3
  clear hM3 hs3
  have C_4 := Lib.hid (hC)
  clear hL hC
  go_wp2_with fail
  refine (Size_any _ 1 w4.heap.size (kright key 16) w4 C_4.out).mono ?_
  rintro e w4 ⟨rfl, rfl⟩
  rw [show psize 1 = 16 from rfl]
  go_wp2_with fail
  have U_4 := Lib.hid (T_4.out.take (n := 16 * m) (by rw [EL.out]; exact hT1))
  refine (AloneX _ _ w4.heap.size m 1 (kright key 16) (text.take (16 * m)) back w4 (by decide) C_4.out (Nat.le_refl _) (by rw [HPR.out]; decide) U_4.out HTL.out hmx).mono ?_
  rintro e w5 ⟨vX, rfl, hO, hL⟩
  have HLX := Lib.hid (show (aloneTo 1 (kright key 16) (text.take (16 * m)) back m).length = 16 * m from aloneTo_len 1 _ _ _ m (by decide))
  obtain ⟨AX, cX, rfl, hcX⟩ := hO.slB.formc HLX.out
  have hM5 : Below N w w5 := below_more hM4 hL hs4
  have hs5 : N ≤ w5.heap.size := Nat.le_trans hs4 (hL).size
  have E_5 := Lib.hid (E_4.out.below hL)
  clear E_4
  have K_5 := Lib.hid (K_4.out.below hL)
  clear K_4
  have T_5 := Lib.hid (T_4.out.below hL)
  clear T_4
  have S_5 := Lib.hid (S_4.out.under hL)
  clear S_4
  have R_5 := Lib.hid (R_4.out.under hL)
  clear R_4
  have C_5 := Lib.hid (C_4.out.next hL)
  clear C_4
  have U_5 := Lib.hid (U_4.out.below hL)
  clear U_4
  clear hM4 hs4
  have X_5 := Lib.hid (hO)
  clear hL hO
  go_wp2_with fail
  refine (AloneX _ _ w5.heap.size m 1 (kright key 16) (aloneTo 1 (kright key 16) (text.take (16 * m)) back m) (!back) w5 (by decide) C_5.out (Nat.le_refl _) (by rw [HPR.out]; decide) X_5.out.slB HLX.out hmx).mono ?_
  rintro e w6 ⟨vY, rfl, hO, hL⟩
  rw [alone_back 1 _ (text.take (16 * m)) back m (by decide) HTL.out] at hO
  obtain ⟨AY, cY, rfl, hcY⟩ := hO.slB.formc HTL.out
  have hM6 : Below N w w6 := below_more hM5 hL hs5
  have hs6 : N ≤ w6.heap.size := Nat.le_trans hs5 (hL).size
  have E_6 := Lib.hid (E_5.out.below hL)
  clear E_5
  have K_6 := Lib.hid (K_5.out.below hL)
  clear K_5
  have T_6 := Lib.hid (T_5.out.below hL)
  clear T_5
  have S_6 := Lib.hid (S_5.out.under hL)
  clear S_5
  have R_6 := Lib.hid (R_5.out.under hL)
  clear R_5
  have C_6 := Lib.hid (C_5.out.next hL)
  clear C_5
  have U_6 := Lib.hid (U_5.out.below hL)
  clear U_5
  have X_6 := Lib.hid (X_5.out.under hL)
  clear X_5
  clear hM5 hs5
  have Y_6 := Lib.hid (hO)
  clear hL hO
  go_wp2_with fail
  refine (ChainedX _ _ _ w6.heap.size m 1 (kright key 16) start (text.take (16 * m)) back w6 (by decide) C_6.out (Nat.le_refl _) (by rw [HPR.out]; decide) U_6.out HTL.out hmx (by have h := S_6.out.slTo (n := 16) HST.out (by decide) (by decide); rw [List.take_of_length_le (by rw [HST.out]; decide)] at h; exact h) HST.out).mono ?_
  rintro e w7 ⟨vP, rfl, hO, hL⟩
  have HLP := Lib.hid (show (cchain 1 (kright key 16) start (text.take (16 * m)) back m).length = 16 * m from cchain_len 1 _ _ _ _ m (by decide))
  obtain ⟨AP, cP, rfl, hcP⟩ := hO.slB.formc HLP.out
  have hM7 : Below N w w7 := below_more hM6 hL hs6
  have hs7 : N ≤ w7.heap.size := Nat.le_trans hs6 (hL).size
  have E_7 := Lib.hid (E_6.out.below hL)
  clear E_6
  have K_7 := Lib.hid (K_6.out.below hL)
  clear K_6
  have T_7 := Lib.hid (T_6.out.below hL)
  clear T_6
  have S_7 := Lib.hid (S_6.out.under hL)
  clear S_6
  have R_7 := Lib.hid (R_6.out.under hL)
  clear R_6
  have C_7 := Lib.hid (C_6.out.next hL)
  clear C_6
  have U_7 := Lib.hid (U_6.out.below hL)
  clear U_6
  have X_7 := Lib.hid (X_6.out.under hL)
  clear X_6
  have Y_7 := Lib.hid (Y_6.out.under hL)
  clear Y_6
  clear hM6 hs6
  have P_7 := Lib.hid (hO)
  clear hL hO
  go_wp2_with fail
  refine (ChainedX _ _ _ w7.heap.size m 1 (kright key 16) start (cchain 1 (kright key 16) start (text.take (16 * m)) back m) (!back) w7 (by decide) C_7.out (Nat.le_refl _) (by rw [HPR.out]; decide) P_7.out.slB HLP.out hmx (by have h := S_7.out.slTo (n := 16) HST.out (by decide) (by decide); rw [List.take_of_length_le (by rw [HST.out]; decide)] at h; exact h) HST.out).mono ?_
  rintro e w8 ⟨vV, rfl, hO, hL⟩
  rw [cchain_back 1 _ start (text.take (16 * m)) back m (by decide) HTL.out HST.out] at hO
  obtain ⟨AV, cV, rfl, hcV⟩ := hO.slB.formc HTL.out
  have hM8 : Below N w w8 := below_more hM7 hL hs7
  have hs8 : N ≤ w8.heap.size := Nat.le_trans hs7 (hL).size
  have E_8 := Lib.hid (E_7.out.below hL)
  clear E_7
  have K_8 := Lib.hid (K_7.out.below hL)
  clear K_7
  have T_8 := Lib.hid (T_7.out.below hL)
  clear T_7
  have S_8 := Lib.hid (S_7.out.under hL)
  clear S_7
  have R_8 := Lib.hid (R_7.out.under hL)
  clear R_7
  have C_8 := Lib.hid (C_7.out.next hL)
  clear C_7
  have U_8 := Lib.hid (U_7.out.below hL)
  clear U_7
  have X_8 := Lib.hid (X_7.out.under hL)
  clear X_7
  have Y_8 := Lib.hid (Y_7.out.under hL)
  clear Y_7
  have P_8 := Lib.hid (P_7.out.under hL)
  clear P_7
  clear hM7 hs7
  have V_8 := Lib.hid (hO)
  clear hL hO
  go_wp2_with fail
  refine (Same_any _ _ (text.take (16 * m)) (text.take (16 * m)) w8 Y_8.out.slB U_8.out (by rw [HTL.out]; omega)).mono ?_
  rintro e w9 ⟨rfl, hD⟩
  rw [beq_self_eq_true]
  have hM9 : Below N w w9 := below_more hM8 hD.below0 hs8
  have hs9 : N ≤ w9.heap.size := Nat.le_trans hs8 (hD.below0).size
  have E_9 := Lib.hid (E_8.out.below hD.below0)
  clear E_8
  have K_9 := Lib.hid (K_8.out.below hD.below0)
  clear K_8
  have T_9 := Lib.hid (T_8.out.below hD.below0)
  clear T_8
  have S_9 := Lib.hid (S_8.out.under hD.below0)
  clear S_8
  have R_9 := Lib.hid (R_8.out.under hD.below0)
  clear R_8
  have C_9 := Lib.hid (C_8.out.next hD.below0)
  clear C_8
  have U_9 := Lib.hid (U_8.out.below hD.below0)
  clear U_8
  have X_9 := Lib.hid (X_8.out.under hD.below0)
  clear X_8
  have Y_9 := Lib.hid (Y_8.out.under hD.below0)
  clear Y_8
  have P_9 := Lib.hid (P_8.out.under hD.below0)
  clear P_8
  have V_9 := Lib.hid (V_8.out.under hD.below0)
  clear V_8
  clear hM8 hs8
  clear hD
  go_wp2_with fail
  refine (Same_any _ _ (text.take (16 * m)) (text.take (16 * m)) w9 V_9.out.slB U_9.out (by rw [HTL.out]; omega)).mono ?_
  rintro e w10 ⟨rfl, hD⟩
  rw [beq_self_eq_true]
  have hM10 : Below N w w10 := below_more hM9 hD.below0 hs9
  have hs10 : N ≤ w10.heap.size := Nat.le_trans hs9 (hD.below0).size
  have E_10 := Lib.hid (E_9.out.below hD.below0)
  clear E_9
  have K_10 := Lib.hid (K_9.out.below hD.below0)
  clear K_9
  have T_10 := Lib.hid (T_9.out.below hD.below0)
  clear T_9
  have S_10 := Lib.hid (S_9.out.under hD.below0)
  clear S_9
  have R_10 := Lib.hid (R_9.out.under hD.below0)
  clear R_9
  have C_10 := Lib.hid (C_9.out.next hD.below0)
  clear C_9
  have U_10 := Lib.hid (U_9.out.below hD.below0)
  clear U_9
  have X_10 := Lib.hid (X_9.out.under hD.below0)
  clear X_9
  have Y_10 := Lib.hid (Y_9.out.under hD.below0)
  clear Y_9
  have P_10 := Lib.hid (P_9.out.under hD.below0)
  clear P_9
  have V_10 := Lib.hid (V_9.out.under hD.below0)
  clear V_9
  clear hM9 hs9
  clear hD
  go_wp2_with fail
  go_ret
  exact ⟨rfl, by rw [HN.out]; exact hM10⟩
set_option maxHeartbeats 3200000 in
set_option maxRecDepth 100000 in
theorem ModeBack_k2 (kd : UInt8) (vk : Value) (key start : List UInt8) (vt : Value) (text : List UInt8) (back : Bool) (w : World) (hE : Et w) (hk : SlB w vk key) (hst : start.length = 16) (ht : SlB w vt text) (hz : bv kd % 2 = 1) (hb : ¬ key.length ≤ 100) : Calls Tryd.prog 10 #[.int .u8 (bv kd), vk, .agg (Bs start), vt, .bool back] w fun e w' => e = .returned (.bool true) ∧ Below w.heap.size w w' := by
  obtain ⟨N, hN⟩ : ∃ N, w.heap.size = N := ⟨_, rfl⟩
  have HN := Lib.hid hN
  obtain ⟨L, hL⟩ : ∃ L, text.length = L := ⟨_, rfl⟩
  obtain ⟨M, hM⟩ : ∃ M, key.length = M := ⟨_, rfl⟩
  have EL := Lib.hid hL
  have EM := Lib.hid hM
  have HK := Lib.hid hk
  have HT := Lib.hid ht
  have HST := Lib.hid hst
  obtain ⟨A, c, rfl, _, p1, p2, _⟩ := hk
  obtain ⟨B, d, rfl, _, q1, q2, _⟩ := ht
  rw [hM] at p1 HK
  rw [hL] at q1 HT
  rw [hM, hL]
  have z0 := bv_ge kd
  have z1 := bv_lt kd
  generalize bv kd = z at z0 z1 hz ⊢
  clear hL hM hst
  rw [EM.out] at hb
  have hM0 : Below N w w := Below.refl _ _
  have hs0 : N ≤ w.heap.size := by omega
  have E_0 := Lib.hid (hE)
  have K_0 := Lib.hid (HK.out)
  have T_0 := Lib.hid (HT.out)
  clear hE HK HT
  go_enter Tryd.func10, Tryd.ntmps10
  go_wp2_with ((with_reducible show wpList _ _ _ _ _ w); refine box_blk (w := w) rfl 41 _ rfl start rfl ?_; intro u0 hA0 hG0 hz0; rw [hN] at hA0 hz0 ⊢)
  have hL : Below w.heap.size w u0 := below_none (Below.refl _ _) (Nat.le_refl _) hG0
  clear hG0 hz0
  have hM1 : Below N w u0 := below_more hM0 hL hs0
  have hs1 : N ≤ u0.heap.size := Nat.le_trans hs0 (hL).size
  have E_1 := Lib.hid (E_0.out.below hL)
  clear E_0
  have K_1 := Lib.hid (K_0.out.below hL)
  clear K_0
  have T_1 := Lib.hid (T_0.out.below hL)
  clear T_0
  clear hM0 hs0
  clear hL
  have S_1 := Lib.hid (hA0)
  clear hA0
  go_wp2_with fail
  refine (awake06 u0 E_1.out).mono ?_
  rintro e w2 ⟨rfl, hL⟩
  have hM2 : Below N w w2 := below_more hM1 hL hs1
  have hs2 : N ≤ w2.heap.size := Nat.le_trans hs1 (hL).size
  have E_2 := Lib.hid (E_1.out.below hL)
  clear E_1
  have K_2 := Lib.hid (K_1.out.below hL)
  clear K_1
  have T_2 := Lib.hid (T_1.out.below hL)
  clear T_1
  have S_2 := Lib.hid (S_1.out.under hL)
  clear S_1
  clear hM1 hs1
  clear hL
  go_wp2_with fail
  refine (awake06 w2 E_2.out).mono ?_
  rintro e w3 ⟨rfl, hL⟩
  have hM3 : Below N w w3 := below_more hM2 hL hs2
  have hs3 : N ≤ w3.heap.size := Nat.le_trans hs2 (hL).size
  have E_3 := Lib.hid (E_2.out.below hL)
  clear E_2
  have K_3 := Lib.hid (K_2.out.below hL)
  clear K_2
  have T_3 := Lib.hid (T_2.out.below hL)
  clear T_2
  have S_3 := Lib.hid (S_2.out.under hL)
  clear S_2
  clear hM2 hs2
  clear hL
  go_wp2_with fail
  go_ret
  exact ⟨rfl, by rw [HN.out]; exact hM3⟩
set_option maxHeartbeats 3200000 in
set_option maxRecDepth 100000 in
theorem ModeBack_t2 (kd : UInt8) (vk : Value) (key start : List UInt8) (vt : Value) (text : List UInt8) (back : Bool) (w : World) (hE : Et w) (hk : SlB w vk key) (hst : start.length = 16) (ht : SlB w vt text) (hz : bv kd % 2 = 1) (hb1 : key.length ≤ 100) (hb : ¬ text.length ≤ 200) : Calls Tryd.prog 10 #[.int .u8 (bv kd), vk, .agg (Bs start), vt, .bool back] w fun e w' => e = .returned (.bool true) ∧ Below w.heap.size w w' := by
  obtain ⟨N, hN⟩ : ∃ N, w.heap.size = N := ⟨_, rfl⟩
  have HN := Lib.hid hN
  obtain ⟨L, hL⟩ : ∃ L, text.length = L := ⟨_, rfl⟩
  obtain ⟨M, hM⟩ : ∃ M, key.length = M := ⟨_, rfl⟩
  have EL := Lib.hid hL
  have EM := Lib.hid hM
  have HK := Lib.hid hk
  have HT := Lib.hid ht
  have HST := Lib.hid hst
  obtain ⟨A, c, rfl, _, p1, p2, _⟩ := hk
  obtain ⟨B, d, rfl, _, q1, q2, _⟩ := ht
  rw [hM] at p1 HK
  rw [hL] at q1 HT
  rw [hM, hL]
  have z0 := bv_ge kd
  have z1 := bv_lt kd
  generalize bv kd = z at z0 z1 hz ⊢
  clear hL hM hst
  rw [EM.out] at hb1
  rw [EL.out] at hb
  have hM0 : Below N w w := Below.refl _ _
  have hs0 : N ≤ w.heap.size := by omega
  have E_0 := Lib.hid (hE)
  have K_0 := Lib.hid (HK.out)
  have T_0 := Lib.hid (HT.out)
  clear hE HK HT
  go_enter Tryd.func10, Tryd.ntmps10
  go_wp2_with ((with_reducible show wpList _ _ _ _ _ w); refine box_blk (w := w) rfl 41 _ rfl start rfl ?_; intro u0 hA0 hG0 hz0; rw [hN] at hA0 hz0 ⊢)
  have hL : Below w.heap.size w u0 := below_none (Below.refl _ _) (Nat.le_refl _) hG0
  clear hG0 hz0
  have hM1 : Below N w u0 := below_more hM0 hL hs0
  have hs1 : N ≤ u0.heap.size := Nat.le_trans hs0 (hL).size
  have E_1 := Lib.hid (E_0.out.below hL)
  clear E_0
  have K_1 := Lib.hid (K_0.out.below hL)
  clear K_0
  have T_1 := Lib.hid (T_0.out.below hL)
  clear T_0
  clear hM0 hs0
  clear hL
  have S_1 := Lib.hid (hA0)
  clear hA0
  go_wp2_with fail
  refine (awake06 u0 E_1.out).mono ?_
  rintro e w2 ⟨rfl, hL⟩
  have hM2 : Below N w w2 := below_more hM1 hL hs1
  have hs2 : N ≤ w2.heap.size := Nat.le_trans hs1 (hL).size
  have E_2 := Lib.hid (E_1.out.below hL)
  clear E_1
  have K_2 := Lib.hid (K_1.out.below hL)
  clear K_1
  have T_2 := Lib.hid (T_1.out.below hL)
  clear T_1
  have S_2 := Lib.hid (S_1.out.under hL)
  clear S_1
  clear hM1 hs1
  clear hL
  go_wp2_with fail
  refine (awake06 w2 E_2.out).mono ?_
  rintro e w3 ⟨rfl, hL⟩
  have hM3 : Below N w w3 := below_more hM2 hL hs2
  have hs3 : N ≤ w3.heap.size := Nat.le_trans hs2 (hL).size
  have E_3 := Lib.hid (E_2.out.below hL)
  clear E_2
  have K_3 := Lib.hid (K_2.out.below hL)
  clear K_2
  have T_3 := Lib.hid (T_2.out.below hL)
  clear T_2
  have S_3 := Lib.hid (S_2.out.under hL)
  clear S_2
  clear hM2 hs2
  clear hL
  go_wp2_with fail
  go_ret
  exact ⟨rfl, by rw [HN.out]; exact hM3⟩
set_option maxHeartbeats 12800000 in
set_option maxRecDepth 100000 in
theorem ModeBack_2 (kd : UInt8) (vk : Value) (key start : List UInt8) (vt : Value) (text : List UInt8) (back : Bool) (w : World) (hE : Et w) (hk : SlB w vk key) (hst : start.length = 16) (ht : SlB w vt text) (hz : bv kd % 2 = 1) (hb1 : key.length ≤ 100) (hb2 : text.length ≤ 200) : Calls Tryd.prog 10 #[.int .u8 (bv kd), vk, .agg (Bs start), vt, .bool back] w fun e w' => e = .returned (.bool true) ∧ Below w.heap.size w w' := by
  obtain ⟨N, hN⟩ : ∃ N, w.heap.size = N := ⟨_, rfl⟩
  have HN := Lib.hid hN
  obtain ⟨L, hL⟩ : ∃ L, text.length = L := ⟨_, rfl⟩
  obtain ⟨M, hM⟩ : ∃ M, key.length = M := ⟨_, rfl⟩
  have EL := Lib.hid hL
  have EM := Lib.hid hM
  have HK := Lib.hid hk
  have HT := Lib.hid ht
  have HST := Lib.hid hst
  obtain ⟨A, c, rfl, _, p1, p2, _⟩ := hk
  obtain ⟨B, d, rfl, _, q1, q2, _⟩ := ht
  rw [hM] at p1 HK
  rw [hL] at q1 HT
  rw [hM, hL]
  have z0 := bv_ge kd
  have z1 := bv_lt kd
  generalize bv kd = z at z0 z1 hz ⊢
  clear hL hM hst
  rw [EM.out] at hb1
  rw [EL.out] at hb2
  obtain ⟨m, em⟩ : ∃ m, L / 8 = m := ⟨_, rfl⟩
  have hT : (L : Int) / 8 * 8 = ((8 * m : Nat) : Int) := by omega
  have hT1 : 8 * m ≤ L := by omega
  have hT2 : 8 * m ≤ d := by omega
  have hT3 : ((8 * m : Nat) : Int) ≤ (d : Int) := by omega
  have hmx : m ≤ 100000 := by omega
  have HPR := Lib.hid (show (kright key 24).length = 24 from kright_len _ _)
  have HTL := Lib.hid (show (text.take (8 * m)).length = 8 * m by rw [List.length_take, EL.out]; omega)
  clear em
  have hM0 : Below N w w := Below.refl _ _
  have hs0 : N ≤ w.heap.size := by omega
  have E_0 := Lib.hid (hE)
  have K_0 := Lib.hid (HK.out)
  have T_0 := Lib.hid (HT.out)
  clear hE HK HT
  go_enter Tryd.func10, Tryd.ntmps10
  go_wp2_with ((with_reducible show wpList _ _ _ _ _ w); refine box_blk (w := w) rfl 41 _ rfl start rfl ?_; intro u0 hA0 hG0 hz0; rw [hN] at hA0 hz0 ⊢)
  have hL : Below w.heap.size w u0 := below_none (Below.refl _ _) (Nat.le_refl _) hG0
  clear hG0 hz0
  have hM1 : Below N w u0 := below_more hM0 hL hs0
  have hs1 : N ≤ u0.heap.size := Nat.le_trans hs0 (hL).size
  have E_1 := Lib.hid (E_0.out.below hL)
  clear E_0
  have K_1 := Lib.hid (K_0.out.below hL)
  clear K_0
  have T_1 := Lib.hid (T_0.out.below hL)
  clear T_0
  clear hM0 hs0
  clear hL
  have S_1 := Lib.hid (hA0)
  clear hA0
  go_wp2_with fail
  refine (awake06 u0 E_1.out).mono ?_
  rintro e w2 ⟨rfl, hL⟩
  have hM2 : Below N w w2 := below_more hM1 hL hs1
  have hs2 : N ≤ w2.heap.size := Nat.le_trans hs1 (hL).size
  have E_2 := Lib.hid (E_1.out.below hL)
  clear E_1
  have K_2 := Lib.hid (K_1.out.below hL)
  clear K_1
  have T_2 := Lib.hid (T_1.out.below hL)
  clear T_1
  have S_2 := Lib.hid (S_1.out.under hL)
  clear S_1
  clear hM1 hs1
  clear hL
  go_wp2_with fail
  refine (right06 2 24 (by decide) _ key w2 K_2.out).mono ?_
  rintro e w3 ⟨vR, rfl, hO, hL⟩
  obtain ⟨AR, cR, rfl, hcR⟩ := hO.slB.formc HPR.out
  have hM3 : Below N w w3 := below_more hM2 hL hs2
  have hs3 : N ≤ w3.heap.size := Nat.le_trans hs2 (hL).size
  have E_3 := Lib.hid (E_2.out.below hL)
  clear E_2
  have K_3 := Lib.hid (K_2.out.below hL)
  clear K_2
  have T_3 := Lib.hid (T_2.out.below hL)
  clear T_2
  have S_3 := Lib.hid (S_2.out.under hL)
  clear S_2
  clear hM2 hs2
  have R_3 := Lib.hid (hO)
  clear hL hO
  go_wp2_with fail
  refine (cipher06_2 _ (.slice none 0 0) (kright key 24) [] w3 (by rw [HPR.out]; decide) R_3.out.slB (slB_nil _) (by decide)).mono ?_
  rintro e w4 ⟨q, rfl, hC, hL⟩
  obtain ⟨gq, egq⟩ : ∃ gq, q = .pointer (some ⟨gq, 0, none⟩) := by obtain ⟨gq, _, _, e, _⟩ := hC; exact ⟨gq, e⟩
  subst egq
  have hM4 : Below N w w4 := below_more hM3 hL hs3
  have hs4 : N ≤ w4.heap.size := Nat.le_trans hs3 (hL).size
  have E_4 := Lib.hid (E_3.out.below hL)
  clear E_3
  have K_4 := Lib.hid (K_3.out.below hL)
  clear K_3
  have T_4 := Lib.hid (T_3.out.below hL)
  clear T_3
  have S_4 := Lib.hid (S_3.out.under hL)
  clear S_3
  have R_4 := Lib.hid (R_3.out.under hL)
  clear R_3
  clear hM3 hs3
  have C_4 := Lib.hid (hC)
  clear hL hC
  go_wp2_with fail
  refine (Size_any _ 2 w4.heap.size (kright key 24) w4 C_4.out).mono ?_
  rintro e w4 ⟨rfl, rfl⟩
  rw [show psize 2 = 8 from rfl]
  go_wp2_with fail
  have U_4 := Lib.hid (T_4.out.take (n := 8 * m) (by rw [EL.out]; exact hT1))
  refine (AloneX _ _ w4.heap.size m 2 (kright key 24) (text.take (8 * m)) back w4 (by decide) C_4.out (Nat.le_refl _) (by rw [HPR.out]; decide) U_4.out HTL.out hmx).mono ?_
  rintro e w5 ⟨vX, rfl, hO, hL⟩
  have HLX := Lib.hid (show (aloneTo 2 (kright key 24) (text.take (8 * m)) back m).length = 8 * m from aloneTo_len 2 _ _ _ m (by decide))
  obtain ⟨AX, cX, rfl, hcX⟩ := hO.slB.formc HLX.out
  have hM5 : Below N w w5 := below_more hM4 hL hs4
  have hs5 : N ≤ w5.heap.size := Nat.le_trans hs4 (hL).size
  have E_5 := Lib.hid (E_4.out.below hL)
  clear E_4
  have K_5 := Lib.hid (K_4.out.below hL)
  clear K_4
  have T_5 := Lib.hid (T_4.out.below hL)
  clear T_4
  have S_5 := Lib.hid (S_4.out.under hL)
  clear S_4
  have R_5 := Lib.hid (R_4.out.under hL)
  clear R_4
  have C_5 := Lib.hid (C_4.out.next hL)
  clear C_4
  have U_5 := Lib.hid (U_4.out.below hL)
  clear U_4
  clear hM4 hs4
  have X_5 := Lib.hid (hO)
  clear hL hO
  go_wp2_with fail
  refine (AloneX _ _ w5.heap.size m 2 (kright key 24) (aloneTo 2 (kright key 24) (text.take (8 * m)) back m) (!back) w5 (by decide) C_5.out (Nat.le_refl _) (by rw [HPR.out]; decide) X_5.out.slB HLX.out hmx).mono ?_
  rintro e w6 ⟨vY, rfl, hO, hL⟩
  rw [alone_back 2 _ (text.take (8 * m)) back m (by decide) HTL.out] at hO
  obtain ⟨AY, cY, rfl, hcY⟩ := hO.slB.formc HTL.out
  have hM6 : Below N w w6 := below_more hM5 hL hs5
  have hs6 : N ≤ w6.heap.size := Nat.le_trans hs5 (hL).size
  have E_6 := Lib.hid (E_5.out.below hL)
  clear E_5
  have K_6 := Lib.hid (K_5.out.below hL)
  clear K_5
  have T_6 := Lib.hid (T_5.out.below hL)
  clear T_5
  have S_6 := Lib.hid (S_5.out.under hL)
  clear S_5
  have R_6 := Lib.hid (R_5.out.under hL)
  clear R_5
  have C_6 := Lib.hid (C_5.out.next hL)
  clear C_5
  have U_6 := Lib.hid (U_5.out.below hL)
  clear U_5
  have X_6 := Lib.hid (X_5.out.under hL)
  clear X_5
  clear hM5 hs5
  have Y_6 := Lib.hid (hO)
  clear hL hO
  go_wp2_with fail
  refine (ChainedX _ _ _ w6.heap.size m 2 (kright key 24) (start.take 8) (text.take (8 * m)) back w6 (by decide) C_6.out (Nat.le_refl _) (by rw [HPR.out]; decide) U_6.out HTL.out hmx (by have h := S_6.out.slTo (n := 8) HST.out (by decide) (by decide); exact h) (by rw [List.length_take, HST.out]; rfl)).mono ?_
  rintro e w7 ⟨vP, rfl, hO, hL⟩
  have HLP := Lib.hid (show (cchain 2 (kright key 24) (start.take 8) (text.take (8 * m)) back m).length = 8 * m from cchain_len 2 _ _ _ _ m (by decide))
  obtain ⟨AP, cP, rfl, hcP⟩ := hO.slB.formc HLP.out
  have hM7 : Below N w w7 := below_more hM6 hL hs6
  have hs7 : N ≤ w7.heap.size := Nat.le_trans hs6 (hL).size
  have E_7 := Lib.hid (E_6.out.below hL)
  clear E_6
  have K_7 := Lib.hid (K_6.out.below hL)
  clear K_6
  have T_7 := Lib.hid (T_6.out.below hL)
  clear T_6
  have S_7 := Lib.hid (S_6.out.under hL)
  clear S_6
  have R_7 := Lib.hid (R_6.out.under hL)
  clear R_6
  have C_7 := Lib.hid (C_6.out.next hL)
  clear C_6
  have U_7 := Lib.hid (U_6.out.below hL)
  clear U_6
  have X_7 := Lib.hid (X_6.out.under hL)
  clear X_6
  have Y_7 := Lib.hid (Y_6.out.under hL)
  clear Y_6
  clear hM6 hs6
  have P_7 := Lib.hid (hO)
  clear hL hO
  go_wp2_with fail
  refine (ChainedX _ _ _ w7.heap.size m 2 (kright key 24) (start.take 8) (cchain 2 (kright key 24) (start.take 8) (text.take (8 * m)) back m) (!back) w7 (by decide) C_7.out (Nat.le_refl _) (by rw [HPR.out]; decide) P_7.out.slB HLP.out hmx (by have h := S_7.out.slTo (n := 8) HST.out (by decide) (by decide); exact h) (by rw [List.length_take, HST.out]; rfl)).mono ?_
  rintro e w8 ⟨vV, rfl, hO, hL⟩
  rw [cchain_back 2 _ (start.take 8) (text.take (8 * m)) back m (by decide) HTL.out (by rw [List.length_take, HST.out]; rfl)] at hO
  obtain ⟨AV, cV, rfl, hcV⟩ := hO.slB.formc HTL.out
  have hM8 : Below N w w8 := below_more hM7 hL hs7
  have hs8 : N ≤ w8.heap.size := Nat.le_trans hs7 (hL).size
  have E_8 := Lib.hid (E_7.out.below hL)
  clear E_7
  have K_8 := Lib.hid (K_7.out.below hL)
  clear K_7
  have T_8 := Lib.hid (T_7.out.below hL)
  clear T_7
  have S_8 := Lib.hid (S_7.out.under hL)
  clear S_7
  have R_8 := Lib.hid (R_7.out.under hL)
  clear R_7
  have C_8 := Lib.hid (C_7.out.next hL)
  clear C_7
  have U_8 := Lib.hid (U_7.out.below hL)
  clear U_7
  have X_8 := Lib.hid (X_7.out.under hL)
  clear X_7
  have Y_8 := Lib.hid (Y_7.out.under hL)
  clear Y_7
  have P_8 := Lib.hid (P_7.out.under hL)
  clear P_7
  clear hM7 hs7
  have V_8 := Lib.hid (hO)
  clear hL hO
  go_wp2_with fail
  refine (Same_any _ _ (text.take (8 * m)) (text.take (8 * m)) w8 Y_8.out.slB U_8.out (by rw [HTL.out]; omega)).mono ?_
  rintro e w9 ⟨rfl, hD⟩
  rw [beq_self_eq_true]
  have hM9 : Below N w w9 := below_more hM8 hD.below0 hs8
  have hs9 : N ≤ w9.heap.size := Nat.le_trans hs8 (hD.below0).size
  have E_9 := Lib.hid (E_8.out.below hD.below0)
  clear E_8
  have K_9 := Lib.hid (K_8.out.below hD.below0)
  clear K_8
  have T_9 := Lib.hid (T_8.out.below hD.below0)
  clear T_8
  have S_9 := Lib.hid (S_8.out.under hD.below0)
  clear S_8
  have R_9 := Lib.hid (R_8.out.under hD.below0)
  clear R_8
  have C_9 := Lib.hid (C_8.out.next hD.below0)
  clear C_8
  have U_9 := Lib.hid (U_8.out.below hD.below0)
  clear U_8
  have X_9 := Lib.hid (X_8.out.under hD.below0)
  clear X_8
  have Y_9 := Lib.hid (Y_8.out.under hD.below0)
  clear Y_8
  have P_9 := Lib.hid (P_8.out.under hD.below0)
  clear P_8
  have V_9 := Lib.hid (V_8.out.under hD.below0)
  clear V_8
  clear hM8 hs8
  clear hD
  go_wp2_with fail
  refine (Same_any _ _ (text.take (8 * m)) (text.take (8 * m)) w9 V_9.out.slB U_9.out (by rw [HTL.out]; omega)).mono ?_
  rintro e w10 ⟨rfl, hD⟩
  rw [beq_self_eq_true]
  have hM10 : Below N w w10 := below_more hM9 hD.below0 hs9
  have hs10 : N ≤ w10.heap.size := Nat.le_trans hs9 (hD.below0).size
  have E_10 := Lib.hid (E_9.out.below hD.below0)
  clear E_9
  have K_10 := Lib.hid (K_9.out.below hD.below0)
  clear K_9
  have T_10 := Lib.hid (T_9.out.below hD.below0)
  clear T_9
  have S_10 := Lib.hid (S_9.out.under hD.below0)
  clear S_9
  have R_10 := Lib.hid (R_9.out.under hD.below0)
  clear R_9
  have C_10 := Lib.hid (C_9.out.next hD.below0)
  clear C_9
  have U_10 := Lib.hid (U_9.out.below hD.below0)
  clear U_9
  have X_10 := Lib.hid (X_9.out.under hD.below0)
  clear X_9
  have Y_10 := Lib.hid (Y_9.out.under hD.below0)
  clear Y_9
  have P_10 := Lib.hid (P_9.out.under hD.below0)
  clear P_9
  have V_10 := Lib.hid (V_9.out.under hD.below0)
  clear V_9
  clear hM9 hs9
  clear hD
  go_wp2_with fail
  go_ret
  exact ⟨rfl, by rw [HN.out]; exact hM10⟩
theorem ModeBack_any (kd : UInt8) (vk : Value) (key start : List UInt8) (vt : Value) (text : List UInt8) (back : Bool) (w : World) (hE : Et w) (hk : SlB w vk key) (hst : start.length = 16) (ht : SlB w vt text) : Calls Tryd.prog 10 #[.int .u8 (bv kd), vk, .agg (Bs start), vt, .bool back] w fun e w' => e = .returned (.bool true) ∧ Below w.heap.size w w' := by
  have hp : bv kd % 2 = 0 ∨ bv kd % 2 = 1 := by omega
  by_cases h1 : key.length ≤ 100
  · by_cases h2 : text.length ≤ 200
    · rcases hp with hz | hz
      · exact ModeBack_1 kd vk key start vt text back w hE hk hst ht hz h1 h2
      · exact ModeBack_2 kd vk key start vt text back w hE hk hst ht hz h1 h2
    · rcases hp with hz | hz
      · exact ModeBack_t1 kd vk key start vt text back w hE hk hst ht hz h1 h2
      · exact ModeBack_t2 kd vk key start vt text back w hE hk hst ht hz h1 h2
  · rcases hp with hz | hz
    · exact ModeBack_k1 kd vk key start vt text back w hE hk hst ht hz h1
    · exact ModeBack_k2 kd vk key start vt text back w hE hk hst ht hz h1
end Go.Proofs.YtjbdhnmkeaogcaaDoor
set_option linter.unusedVariables false
set_option linter.unusedSimpArgs false
namespace Lk
open Go Go.RowKit
/-- a slice of whole numbers as it is read -/
def IsRow (k : IntKind) (w : World) (a : Option Addr) (len cap : Nat) (zs : List Int) : Prop :=
  (a = none ∧ len = 0 ∧ cap = 0 ∧ zs = []) ∨
  ∃ x, a = some x ∧ len ≤ cap ∧ cap ≤ maxLen ∧ zs.length = cap ∧ (∀ i, i < zs.length → w.cell? (x.add i) = some (.int k (zs.getD i 0))) ∧ ∀ n ∈ zs, (Lit.int k n).wf = true
theorem u8_of_wf {n : Int} (h : (Lit.int .u8 n).wf = true) : n = bv (UInt8.ofNat n.toNat) := by
  obtain ⟨a, rfl⟩ := open_u8 h
  unfold bv
  simp
theorem slB_of_row {w : World} {a : Option Addr} {len cap : Nat} {zs : List Int} (h : IsRow .u8 w a len cap zs) : ∃ l : List UInt8, l.length = len ∧ SlB w (.slice a len cap) l := by
  rcases h with ⟨rfl, rfl, rfl, rfl⟩ | ⟨x, rfl, h1, h2, h3, h4, h5⟩
  · exact ⟨[], rfl, none, 0, rfl, fun _ => rfl, Nat.le_refl _, Nat.zero_le _, fun h => by omega⟩
  · have hl : ((zs.take len).map fun z => UInt8.ofNat z.toNat).length = len := by simp; omega
    refine ⟨(zs.take len).map fun z => UInt8.ofNat z.toNat, hl, some x, cap, by rw [hl], fun h => (by cases h), by rw [hl]; exact h1, h2, fun hc => ?_⟩
    have hx : x.spot = none := by
      have := h4 0 (by omega)
      have e : x.add 0 = x := by simp [Addr.add]
      rw [e] at this
      unfold World.cell? at this
      split at this
      · split at this
        · cases this
        · rename_i hs; simpa using hs
      · cases this
    obtain ⟨g, o, s⟩ := x
    cases hx
    refine ⟨g, o, rfl, fun k hk => ?_⟩
    rw [hl] at hk
    have hc := h4 k (by omega)
    have ea : (⟨g, o, none⟩ : Addr).add k = ⟨g, o + k, none⟩ := by unfold Addr.add; split <;> simp_all
    rw [ea] at hc
    rw [hc]
    have hm : zs.getD k 0 ∈ zs := by
      have : k < zs.length := by omega
      simp [this]
    have := u8_of_wf (h5 _ hm)
    have e : g8 ((zs.take len).map fun z => UInt8.ofNat z.toNat) k = UInt8.ofNat (zs.getD k 0).toNat := by
      unfold g8
      have : k < zs.length := by omega
      simp [List.getElem?_take, hk, this]
    rw [e, ← this]
section
variable {P : Program} {H : Type} {enc : TypeId × Value → H}
theorem open_slice_u8 {t e : TypeId} {W : World} {a : Option Addr} {len cap : Nat} {d : DataW H} {ps : List MemPlace} (ht : P.underlying t = some (.slice e)) (he : P.underlying e = some (.int .u8)) (hc : P.cellsOf e = 1)
    (h : DataW.Trod enc P W 0 (fun _ => true) true t (.slice a len cap) d ps) : ∃ l : List UInt8, l.length = len ∧ SlB W (.slice a len cap) l := by
  obtain ⟨zs, hz⟩ : ∃ zs, IsRow .u8 W a len cap zs := by
    obtain ⟨fuel, hf⟩ := h
    rcases Go.ChangeShapes.open_ints ht he hc hf with ⟨hcs, _⟩ | ⟨x, l, c, zs, hcs, _, hl, hm, hz, _, hcell, hwz⟩
    · simp [Value.cells] at hcs
      obtain ⟨rfl, rfl, rfl⟩ := hcs
      exact ⟨[], .inl ⟨rfl, rfl, rfl, rfl⟩⟩
    · simp [Value.cells] at hcs
      obtain ⟨rfl, rfl, rfl⟩ := hcs
      exact ⟨zs, .inr ⟨_, rfl, hl, hm, by simpa using hz, hcell, hwz⟩⟩
  exact slB_of_row hz
/-- an array of bytes -/
theorem open_arr_u8 {t e n : Nat} {W : World} {r : Reach} {base : Nat} {v : Value} (ht : P.underlying t = some (.array n e)) (he : P.underlying e = some (.int .u8)) (hc : P.cellsOf t = n) (hct : P.cellTypes P.depth t = some (List.replicate n e)) (hn : 0 < n)
    (h : Value.okWide P W r base t v) : ∃ l : List UInt8, l.length = n ∧ v = .agg (Bs l) := by
  simp only [Value.okWide, ht] at h
  obtain ⟨cs, rfl, hsz, ts, hts, _, hcell⟩ := h
  rw [hct] at hts
  cases hts
  rw [hc] at hsz
  refine ⟨cs.toList.map fun v => match v with | .int _ z => UInt8.ofNat z.toNat | _ => 0, by simp [hsz], ?_⟩
  congr 1
  apply Array.ext
  · simp [Bs]
  · intro i h1 h2
    obtain ⟨u, hu, hok⟩ := hcell i cs[i] (by simp [h1])
    have hue : u = e := by
      rw [List.getElem?_replicate] at hu
      split at hu
      · cases hu; rfl
      · cases hu
    subst hue
    simp only [Cell.okWide, he] at hok
    simp only [Bs, List.map_map, List.getElem_toArray, List.getElem_map, Function.comp_apply, Array.getElem_toList]
    cases hv : cs[i] with
    | int k z =>
      rw [hv] at hok
      simp only [Cell.ok, he] at hok
      obtain ⟨rfl, hw⟩ := hok
      have hw' : (Lit.int .u8 z).wf = true := by
        unfold Lit.wf
        rw [Bool.and_eq_true]
        exact ⟨decide_eq_true hw.1, decide_eq_true hw.2⟩
      simp only [← u8_of_wf hw']
    | _ => rw [hv] at hok; simp [Cell.ok, he] at hok
end
end Lk
set_option linter.unusedVariables false
namespace Go.Proofs.YtjbdhnmkeaogcaaDoor
open Go.ChangeShapes Go.WideShapes Go.RowKit
theorem ownKnobNone : ownKnob Tryd.prog.godebug = none := by kernel_rfl
theorem laidOutAll : laidOutB Tryd.prog = true := by kernel_rfl
theorem fct_laid : laidOutB Tryd.checked.prog = true := by kernel_rfl
theorem fct_maps : mapsRowed Tryd.checked.prog = true := by kernel_rfl
theorem fct_main : Tryd.pinned.checked.prog.mainIs = some (true, "8650a698aaa6e7940681561f98863e190d5ec889b7f6ab40edacde75e00aa3ea".toList) := by kernel_rfl
theorem fct_looks : true = Tryd.pinned.checked.prog.looks [] := by kernel_rfl
def laidList : List (String × DataW Unit) := [("errors.errorType", Rows.laid_errors_errorType)]
theorem et_g : Tryd.prog.globalNamed "errors.errorType" = some 0 := by kernel_rfl
theorem et_rt : (Tryd.prog.cutTypes.find? (·.1 == "internal/reflectlite.rtype")).map (·.2) = some 171 := by kernel_rfl
theorem et_row : ((List.range 242).filter fun t => Tryd.prog.rowNamed t [101, 114, 114, 111, 114]) = [29] := by kernel_rfl
theorem et_size : Tryd.prog.types.size = 242 := by kernel_rfl
theorem handle_of_laid {W : World} (h : laidMetH Tryd.prog laidList W) : Et W := by
  have h' : laidMet Tryd.prog [] W ∧ handlesMet Tryd.prog laidList W := h
  obtain ⟨name, u, ty, e1, e2, e3, e4, e5⟩ := h'.2 _ (List.mem_singleton.2 rfl)
  have en : name = [101, 114, 114, 111, 114] := (Option.some.inj e1).symm
  subst en
  obtain rfl := Option.some.inj (et_rt.symm.trans e2)
  have hm : ty ∈ (List.range 242).filter fun t => Tryd.prog.rowNamed t [101, 114, 114, 111, 114] := List.mem_filter.2 ⟨List.mem_range.2 (by rw [← et_size]; exact e3), e4⟩
  rw [et_row] at hm
  obtain rfl := List.mem_singleton.1 hm
  have hh : typeHandle Tryd.prog 29 = .pointer (some ⟨1, 29, none⟩) := by kernel_rfl
  rw [hh] at e5
  have := World.var?_cell et_g e5 0
  unfold Et hnd
  simpa using this
noncomputable def laidWorld (os : Os) : World :=
  let w0 := World.holding Tryd.prog os ⟨#[], #[], []⟩
  { w0 with heap := w0.heap.modify 0 fun
      | .cells _ t frozen => .cells #[.iface 171 (.agg #[.pointer (some ⟨1, 29, none⟩)])] t frozen
      | o => o }
theorem laidWorld_met (os : Os) (args : Array Value) : laidMetH Tryd.prog laidList ((laidWorld os).forCall (fun _ _ => 0) ⟨#[], args, []⟩).memory :=
  laidMetH_of_parts (laidMet_nil _ _) (by kernel_rfl)
end Go.Proofs.YtjbdhnmkeaogcaaDoor
namespace Go.Proofs.YtjbdhnmkeaogcaaDoor.modeBack
open Go.ChangeShapes Go.WideShapes Go.ChangeAt Go.RowKit Lk
open Go.ChangeMaps (open_string shut_string)
set_option linter.unusedVariables false
set_option linter.unusedSimpArgs false
set_option maxRecDepth 100000 in
theorem lifted (os : Os) (started : os.Started) (H : Type) (enc : TypeId × Value → H) :
    ReturnsInHanded {} Tryd.checked os 10 .any (fun w args => (Rows.modeBackSpec.pre enc Tryd.prog Tryd.f10 [] false w args ∧ laidMetH Tryd.prog laidList w) ∧ sizedMet enc Tryd.prog Tryd.f10 (OpenSpec.ofChange Rows.modeBackSpec) false w args)
      (Rows.modeBackSpec.post enc Tryd.prog Tryd.f10 false true false false) := by
  refine returnsInHanded_of_change_and (C := Tryd.checked) (X := fun w _ => laidMetH Tryd.prog laidList w) (fun _ _ _ hh h => h.of_heap hh) ownKnobNone started (by kernel_rfl) Tryd.func10
    (ChangeSpec.witness_at (enc := enc) (C := Tryd.checked) (os := os) (X := fun w _ => laidMetH Tryd.prog laidList w) false (laidWorld os) #[.int .u8 0, .slice none 0 0, .agg #[.int .u8 0, .int .u8 0, .int .u8 0, .int .u8 0, .int .u8 0, .int .u8 0, .int .u8 0, .int .u8 0, .int .u8 0, .int .u8 0, .int .u8 0, .int .u8 0, .int .u8 0, .int .u8 0, .int .u8 0, .int .u8 0], .slice none 0 0, .bool false] 8 rfl (by kernel_rfl) (by kernel_rfl) (by kernel_rfl) (by kernel_rfl) (by kernel_rfl) (laidWorld_met os _)) ?_
  intro W base args ds gs before hval0 hW _ _ hLd _
  have hval : ∀ (j : Nat) t v, Tryd.f10.params[j]? = some t → args[j]? = some v → Value.okWide Tryd.prog W .any base t v := hval0
  have hW' := hW
  obtain ⟨p, q, hA0, hV, rfl, hfz, hnd⟩ := hW
  have hA : DataW.TrodAll enc Tryd.prog W 0 (fun _ => true) true Tryd.f10.params.toList args.toList ds p := hA0
  have hEt : Et W := handle_of_laid hLd
  rw [Tryd.params10] at hA hval
  obtain ⟨v0, vs0, d0, ds0, p0, q0, hargs, rfl, rfl, h0, r0⟩ := trodAll_cons hA
  obtain ⟨v1, vs1, d1, ds1, p1, q1, rfl, rfl, rfl, h1, r1⟩ := trodAll_cons r0
  obtain ⟨v2, vs2, d2, ds2, p2, q2, rfl, rfl, rfl, h2, r2⟩ := trodAll_cons r1
  obtain ⟨v3, vs3, d3, ds3, p3, q3, rfl, rfl, rfl, h3, r3⟩ := trodAll_cons r2
  obtain ⟨v4, vs4, d4, ds4, p4, q4, rfl, rfl, rfl, h4, r4⟩ := trodAll_cons r3
  obtain ⟨rfl, rfl, rfl⟩ := trodAll_nil r4
  obtain rfl : args = #[v0, v1, v2, v3, v4] := by cases args; simp_all
  obtain ⟨rfl, rfl⟩ := trodVars_none hV
  have k0 := h0
  have lt0 : ∀ x ∈ p0, x.block < W.heap.size := by obtain ⟨m, hm⟩ := k0; exact DataW.trod_lt m _ _ _ hm
  obtain ⟨a0, rfl, rfl, rfl, w0⟩ := open_int Tryd.underlying5 (hval 0 5 v0 rfl rfl) h0
  obtain ⟨b0, rfl⟩ := Lk.open_u8 w0
  have k1 := h1
  have lt1 : ∀ x ∈ p1, x.block < W.heap.size := by obtain ⟨m, hm⟩ := k1; exact DataW.trod_lt m _ _ _ hm
  obtain ⟨a1, len1, cap1, rfl⟩ := okWide_slice Tryd.underlying22 (hval 1 22 v1 rfl rfl)
  obtain ⟨l1, hl1, s1⟩ := open_slice_u8 Tryd.underlying22 Tryd.underlying5 (by kernel_rfl) h1
  have k2 := h2
  have lt2 : ∀ x ∈ p2, x.block < W.heap.size := by obtain ⟨m, hm⟩ := k2; exact DataW.trod_lt m _ _ _ hm
  obtain ⟨l2, hl2, rfl⟩ := open_arr_u8 Tryd.underlying41 Tryd.underlying5 (by kernel_rfl) (by kernel_rfl) (by decide) (hval 2 41 v2 rfl rfl)
  have k3 := h3
  have lt3 : ∀ x ∈ p3, x.block < W.heap.size := by obtain ⟨m, hm⟩ := k3; exact DataW.trod_lt m _ _ _ hm
  obtain ⟨a3, len3, cap3, rfl⟩ := okWide_slice Tryd.underlying22 (hval 3 22 v3 rfl rfl)
  obtain ⟨l3, hl3, s3⟩ := open_slice_u8 Tryd.underlying22 Tryd.underlying5 (by kernel_rfl) h3
  have k4 := h4
  have lt4 : ∀ x ∈ p4, x.block < W.heap.size := by obtain ⟨m, hm⟩ := k4; exact DataW.trod_lt m _ _ _ hm
  obtain ⟨a4, rfl, rfl, rfl⟩ := open_bool Tryd.underlying4 (hval 4 4 v4 rfl rfl) h4
  clear hA0 hval0
  refine (ModeBack_any b0 _ l1 l2 _ l3 a4 W hEt s1 hl2 s3).mono fun e W' ⟨he, bel⟩ => ?_
  subst he
  exact ⟨_, rfl, _, _, _, [], _, [], hW', trodAll_mk1 (shut_bool Tryd.underlying4 _), (trodAll_cons_mk (Below.trod laidOutAll (by kernel_rfl) (of_decide_eq_true (by kernel_rfl)) k0 bel lt0) (trodAll_cons_mk (Below.trod laidOutAll (by kernel_rfl) (of_decide_eq_true (by kernel_rfl)) k1 bel lt1) (trodAll_cons_mk (Below.trod laidOutAll (by kernel_rfl) (of_decide_eq_true (by kernel_rfl)) k2 bel lt2) (trodAll_cons_mk (Below.trod laidOutAll (by kernel_rfl) (of_decide_eq_true (by kernel_rfl)) k3 bel lt3) (trodAll_cons_mk (Below.trod laidOutAll (by kernel_rfl) (of_decide_eq_true (by kernel_rfl)) k4 bel lt4) trodAll_mk0))))), rfl, bel.frame _, fun h => by cases h⟩
set_option maxHeartbeats 8000000 in
theorem closed : joinedFacts Tryd.checked.prog 10 Tryd.f10 Rows.modeBackSpec Rows.modeBackRow = true := by
  unfold joinedFacts
  simp only [Bool.and_eq_true]
  repeat' apply And.intro
  all_goals first | with_reducible exact fct_laid | with_reducible exact fct_maps | as_aux_lemma => kernel_rfl
theorem named_f : Tryd.prog.funcNamed "lockbox/lockboxlaw06.ModeBack" = some 10 := by kernel_rfl
theorem over : Rows.ModeBackSaid :=
  OpenClaim.holds_of_wide 10 Tryd.f10 rfl rfl rfl rfl rfl rfl rfl ⟨rfl, rfl, rfl, rfl, rfl⟩ rfl rfl rfl rfl rfl named_f Tryd.func10 closed
    (of_decide_eq_true (by kernel_rfl)) (by unfold Func.isWrapper; first | (rw [if_pos (by decide +kernel)]; kernel_rfl) | (rw [if_neg (by decide +kernel)]; exact ⟨rfl, rfl⟩))
    (fun os started H enc _ => lifted os started H enc)
theorem params_ok (j : Nat) (t : TypeId) (ht : Tryd.f10.params[j]? = some t) : Tryd.prog.wantsStandIn t = false := by
  rw [Tryd.params10] at ht
  have hm : t ∈ #[5, 22, 41, 22, 4] := Array.mem_of_getElem? ht
  simp only [List.mem_toArray, List.mem_cons, List.not_mem_nil, or_false] at hm
  rcases hm with rfl | rfl | rfl | rfl | rfl
  · show Tryd.prog.wantsStandIn 5 = false
    kernel_rfl
  · show Tryd.prog.wantsStandIn 22 = false
    kernel_rfl
  · show Tryd.prog.wantsStandIn 41 = false
    kernel_rfl
  · show Tryd.prog.wantsStandIn 22 = false
    kernel_rfl
  · show Tryd.prog.wantsStandIn 4 = false
    kernel_rfl
theorem wf_text : Rows.modeBackRow.wfByText (OpenSpec.ofChange Rows.modeBackSpec) = true := by kernel_rfl
theorem goes_no : false = Rows.modeBackRow.goesBy Tryd.pinned.checked.prog := by kernel_rfl
theorem card_holds : Rows.ModeBackCardSaid :=
  Claim7.holds_tied_plain_at .later [] [.handle] true (true, "8650a698aaa6e7940681561f98863e190d5ec889b7f6ab40edacde75e00aa3ea") true
    over (fun _ h => by cases h) wf_text (fun _ h => by cases h) modeBack_row_tie rfl ⟨rfl, rfl⟩ fct_main rfl
    (fun f fn hf hfn => by
      obtain rfl : f = 10 := Option.some.inj (named_f.symm.trans hf) |>.symm
      obtain rfl : fn = Tryd.f10 := (Option.some.inj (Tryd.func10.symm.trans hfn)).symm
      exact ⟨fct_looks, fun j t ht => params_ok j t ht⟩)
    goes_no
#print axioms card_holds
end Go.Proofs.YtjbdhnmkeaogcaaDoor.modeBack
namespace Go.Proofs.YtjbdhnmkeaogcaaDoor
/-- The card, under a short name, for the claim. -/
theorem modeBack_holds : Rows.ModeBackCardSaid := modeBack.card_holds
end Go.Proofs.YtjbdhnmkeaogcaaDoor
