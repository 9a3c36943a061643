/- For whatever kind, key, start, text and cut the law ModeParts of the layer of modes returns true (a chained text in two parts), and its arguments read as they did; the variable errors.errorType starts as the program lays it. -/
import Derived.Test.YtjbdhnmkeaogcaaDoorKM1
import Derived.Test.YtjbdhnmkeaogcaaDoorKM2
import Derived.Test.YtjbdhnmkeaogcaaDoorKB0
import Derived.WalkKit
import Derived.ProofKit
import Derived.OpenShut
import Derived.ShutString
import Derived.ChangeOld
import Derived.SizedLaws
import Derived.ChangeSlices
import Derived.Test.YtjbdhnmkeaogcaaDoorRows
import Derived.Test.YtjbdhnmkeaogcaaDoorKB6
import Derived.ChangeSame
import Derived.ChangeVars
import Derived.JoinedOf
import Derived.RowKit
import Derived.RowKitTokens
import Derived.LaidLaws
import Derived.LaidHandle
import Derived.Stop.Joined
import Derived.SevenTiedAt
import Derived.Test.YtjbdhnmkeaogcaaDoorCards
import Derived.Test.YtjbdhnmkeaogcaaDoorTie
set_option linter.unusedVariables false
set_option linter.unusedSimpArgs false
namespace Lk
def cutOf (n : Nat) (text : List UInt8) (cut : UInt8) : Nat := (bv cut % (((text.length / n : Nat) : Int) + 1)).toNat
end Lk
namespace Go.Proofs.YtjbdhnmkeaogcaaDoor
open Go.RowKit Lk
set_option maxHeartbeats 3200000 in
set_option maxRecDepth 100000 in
theorem ModeParts_k1 (kd : UInt8) (vk : Value) (key start : List UInt8) (vt : Value) (text : List UInt8) (cut : UInt8) (w : World) (hE : Et w) (hk : SlB w vk key) (hst : start.length = 16) (ht : SlB w vt text) (hz : bv kd % 2 = 0) (hb : ¬ key.length ≤ 100) : Calls Tryd.prog 11 #[.int .u8 (bv kd), vk, .agg (Bs start), vt, .int .u8 (bv cut)] w fun e w' => e = .returned (.bool true) ∧ Below w.heap.size w w' := by
  obtain ⟨N, hN⟩ : ∃ N, w.heap.size = N := ⟨_, rfl⟩
  have HN := Lib.hid hN
  obtain ⟨L, hL⟩ : ∃ L, text.length = L := ⟨_, rfl⟩
  obtain ⟨M, hM⟩ : ∃ M, key.length = M := ⟨_, rfl⟩
  have EL := Lib.hid hL
  have EM := Lib.hid hM
  have HK := Lib.hid hk
  have HT := Lib.hid ht
  have HST := Lib.hid hst
  obtain ⟨A, c, rfl, _, p1, p2, _⟩ := hk
  obtain ⟨B, d, rfl, _, q1, q2, _⟩ := ht
  rw [hM] at p1 HK
  rw [hL] at q1 HT
  rw [hM, hL]
  have z0 := bv_ge kd
  have z1 := bv_lt kd
  have y0 := bv_ge cut
  have y1 := bv_lt cut
  generalize bv kd = z at z0 z1 hz ⊢
  generalize bv cut = y at y0 y1 ⊢
  clear hL hM hst
  rw [EM.out] at hb
  have hM0 : Below N w w := Below.refl _ _
  have hs0 : N ≤ w.heap.size := by omega
  have E_0 := Lib.hid (hE)
  have K_0 := Lib.hid (HK.out)
  have T_0 := Lib.hid (HT.out)
  clear hE HK HT
  go_enter Tryd.func11, Tryd.ntmps11
  go_wp2_with ((with_reducible show wpList _ _ _ _ _ w); refine box_blk (w := w) rfl 41 _ rfl start rfl ?_; intro u0 hA0 hG0 hz0; rw [hN] at hA0 hz0 ⊢)
  have hL : Below w.heap.size w u0 := below_none (Below.refl _ _) (Nat.le_refl _) hG0
  clear hG0 hz0
  have hM1 : Below N w u0 := below_more hM0 hL hs0
  have hs1 : N ≤ u0.heap.size := Nat.le_trans hs0 (hL).size
  have E_1 := Lib.hid (E_0.out.below hL)
  clear E_0
  have K_1 := Lib.hid (K_0.out.below hL)
  clear K_0
  have T_1 := Lib.hid (T_0.out.below hL)
  clear T_0
  clear hM0 hs0
  clear hL
  have S_1 := Lib.hid (hA0)
  clear hA0
  go_wp2_with fail
  refine (awake06 u0 E_1.out).mono ?_
  rintro e w2 ⟨rfl, hL⟩
  have hM2 : Below N w w2 := below_more hM1 hL hs1
  have hs2 : N ≤ w2.heap.size := Nat.le_trans hs1 (hL).size
  have E_2 := Lib.hid (E_1.out.below hL)
  clear E_1
  have K_2 := Lib.hid (K_1.out.below hL)
  clear K_1
  have T_2 := Lib.hid (T_1.out.below hL)
  clear T_1
  have S_2 := Lib.hid (S_1.out.under hL)
  clear S_1
  clear hM1 hs1
  clear hL
  go_wp2_with fail
  refine (awake06 w2 E_2.out).mono ?_
  rintro e w3 ⟨rfl, hL⟩
  have hM3 : Below N w w3 := below_more hM2 hL hs2
  have hs3 : N ≤ w3.heap.size := Nat.le_trans hs2 (hL).size
  have E_3 := Lib.hid (E_2.out.below hL)
  clear E_2
  have K_3 := Lib.hid (K_2.out.below hL)
  clear K_2
  have T_3 := Lib.hid (T_2.out.below hL)
  clear T_2
  have S_3 := Lib.hid (S_2.out.under hL)
  clear S_2
  clear hM2 hs2
  clear hL
  go_wp2_with fail
  go_ret
  exact ⟨rfl, by rw [HN.out]; exact hM3⟩
set_option maxHeartbeats 3200000 in
set_option maxRecDepth 100000 in
theorem ModeParts_t1 (kd : UInt8) (vk : Value) (key start : List UInt8) (vt : Value) (text : List UInt8) (cut : UInt8) (w : World) (hE : Et w) (hk : SlB w vk key) (hst : start.length = 16) (ht : SlB w vt text) (hz : bv kd % 2 = 0) (hb1 : key.length ≤ 100) (hb : ¬ text.length ≤ 200) : Calls Tryd.prog 11 #[.int .u8 (bv kd), vk, .agg (Bs start), vt, .int .u8 (bv cut)] w fun e w' => e = .returned (.bool true) ∧ Below w.heap.size w w' := by
  obtain ⟨N, hN⟩ : ∃ N, w.heap.size = N := ⟨_, rfl⟩
  have HN := Lib.hid hN
  obtain ⟨L, hL⟩ : ∃ L, text.length = L := ⟨_, rfl⟩
  obtain ⟨M, hM⟩ : ∃ M, key.length = M := ⟨_, rfl⟩
  have EL := Lib.hid hL
  have EM := Lib.hid hM
  have HK := Lib.hid hk
  have HT := Lib.hid ht
  have HST := Lib.hid hst
  obtain ⟨A, c, rfl, _, p1, p2, _⟩ := hk
  obtain ⟨B, d, rfl, _, q1, q2, _⟩ := ht
  rw [hM] at p1 HK
  rw [hL] at q1 HT
  rw [hM, hL]
  have z0 := bv_ge kd
  have z1 := bv_lt kd
  have y0 := bv_ge cut
  have y1 := bv_lt cut
  generalize bv kd = z at z0 z1 hz ⊢
  generalize bv cut = y at y0 y1 ⊢
  clear hL hM hst
  rw [EM.out] at hb1
  rw [EL.out] at hb
  have hM0 : Below N w w := Below.refl _ _
  have hs0 : N ≤ w.heap.size := by omega
  have E_0 := Lib.hid (hE)
  have K_0 := Lib.hid (HK.out)
  have T_0 := Lib.hid (HT.out)
  clear hE HK HT
  go_enter Tryd.func11, Tryd.ntmps11
  go_wp2_with ((with_reducible show wpList _ _ _ _ _ w); refine box_blk (w := w) rfl 41 _ rfl start rfl ?_; intro u0 hA0 hG0 hz0; rw [hN] at hA0 hz0 ⊢)
  have hL : Below w.heap.size w u0 := below_none (Below.refl _ _) (Nat.le_refl _) hG0
  clear hG0 hz0
  have hM1 : Below N w u0 := below_more hM0 hL hs0
  have hs1 : N ≤ u0.heap.size := Nat.le_trans hs0 (hL).size
  have E_1 := Lib.hid (E_0.out.below hL)
  clear E_0
  have K_1 := Lib.hid (K_0.out.below hL)
  clear K_0
  have T_1 := Lib.hid (T_0.out.below hL)
  clear T_0
  clear hM0 hs0
  clear hL
  have S_1 := Lib.hid (hA0)
  clear hA0
  go_wp2_with fail
  refine (awake06 u0 E_1.out).mono ?_
  rintro e w2 ⟨rfl, hL⟩
  have hM2 : Below N w w2 := below_more hM1 hL hs1
  have hs2 : N ≤ w2.heap.size := Nat.le_trans hs1 (hL).size
  have E_2 := Lib.hid (E_1.out.below hL)
  clear E_1
  have K_2 := Lib.hid (K_1.out.below hL)
  clear K_1
  have T_2 := Lib.hid (T_1.out.below hL)
  clear T_1
  have S_2 := Lib.hid (S_1.out.under hL)
  clear S_1
  clear hM1 hs1
  clear hL
  go_wp2_with fail
  refine (awake06 w2 E_2.out).mono ?_
  rintro e w3 ⟨rfl, hL⟩
  have hM3 : Below N w w3 := below_more hM2 hL hs2
  have hs3 : N ≤ w3.heap.size := Nat.le_trans hs2 (hL).size
  have E_3 := Lib.hid (E_2.out.below hL)
  clear E_2
  have K_3 := Lib.hid (K_2.out.below hL)
  clear K_2
  have T_3 := Lib.hid (T_2.out.below hL)
  clear T_2
  have S_3 := Lib.hid (S_2.out.under hL)
  clear S_2
  clear hM2 hs2
  clear hL
  go_wp2_with fail
  go_ret
  exact ⟨rfl, by rw [HN.out]; exact hM3⟩
set_option maxHeartbeats 12800000 in
set_option maxRecDepth 100000 in
theorem ModeParts_1z (kd : UInt8) (vk : Value) (key start : List UInt8) (vt : Value) (text : List UInt8) (cut : UInt8) (w : World) (hE : Et w) (hk : SlB w vk key) (hst : start.length = 16) (ht : SlB w vt text) (hz : bv kd % 2 = 0) (hb1 : key.length ≤ 100) (hb2 : text.length ≤ 200) (hcut : cutOf 16 text cut = 0) : Calls Tryd.prog 11 #[.int .u8 (bv kd), vk, .agg (Bs start), vt, .int .u8 (bv cut)] w fun e w' => e = .returned (.bool true) ∧ Below w.heap.size w w' := by
  obtain ⟨N, hN⟩ : ∃ N, w.heap.size = N := ⟨_, rfl⟩
  have HN := Lib.hid hN
  obtain ⟨L, hL⟩ : ∃ L, text.length = L := ⟨_, rfl⟩
  obtain ⟨M, hM⟩ : ∃ M, key.length = M := ⟨_, rfl⟩
  have EL := Lib.hid hL
  have EM := Lib.hid hM
  have HK := Lib.hid hk
  have HT := Lib.hid ht
  have HST := Lib.hid hst
  obtain ⟨A, c, rfl, _, p1, p2, _⟩ := hk
  obtain ⟨B, d, rfl, _, q1, q2, _⟩ := ht
  rw [hM] at p1 HK
  rw [hL] at q1 HT
  rw [hM, hL]
  have z0 := bv_ge kd
  have z1 := bv_lt kd
  have y0 := bv_ge cut
  have y1 := bv_lt cut
  generalize bv kd = z at z0 z1 hz ⊢
  obtain ⟨y, hyy⟩ : ∃ y, bv cut = y := ⟨_, rfl⟩
  rw [hyy] at y0 y1 ⊢
  clear hL hM hst
  rw [EM.out] at hb1
  rw [EL.out] at hb2
  obtain ⟨m, em⟩ : ∃ m, L / 16 = m := ⟨_, rfl⟩
  have hT : (L : Int) / 16 * 16 = ((16 * m : Nat) : Int) := by omega
  have hT1 : 16 * m ≤ L := by omega
  have hT2 : 16 * m ≤ d := by omega
  have hT3 : ((16 * m : Nat) : Int) ≤ (d : Int) := by omega
  have hmx : m ≤ 100000 := by omega
  have hq : ((16 * m : Nat) : Int) / 16 = (m : Int) := by omega
  unfold cutOf at hcut
  rw [EL.out, em, hyy] at hcut
  obtain ⟨j, ej⟩ : ∃ j : Nat, y % ((m : Int) + 1) = (j : Int) := ⟨(y % ((m : Int) + 1)).toNat, by have := Int.emod_nonneg y (show (m : Int) + 1 ≠ 0 by omega); omega⟩
  rw [ej, Int.toNat_natCast] at hcut
  clear hyy
  have hjm : j ≤ m := by have := Int.emod_lt_of_pos y (show 0 < (m : Int) + 1 by omega); omega
  have ej2 : (j : Int) * 16 = ((16 * j : Nat) : Int) := by omega
  have hj1 : 16 * j ≤ 16 * m := by omega
  have HJ := Lib.hid hjm
  obtain ⟨T, eT⟩ : ∃ T, 16 * m = T := ⟨_, rfl⟩
  obtain ⟨J, eJ⟩ : ∃ J, 16 * j = J := ⟨_, rfl⟩
  rw [eT] at hT hT1 hT2 hT3 hq hj1
  rw [eJ] at ej2 hj1
  have ET := Lib.hid eT
  have EJ := Lib.hid eJ
  have hj2 : (J : Int) ≤ (T : Int) := by omega
  have hj3 : (J : Int) ≤ (d : Int) := by omega
  have HPR := Lib.hid (show (kright key 16).length = 16 from kright_len _ _)
  have HTL := Lib.hid (show (text.take T).length = T by rw [List.length_take, EL.out]; omega)
  have HTJ := Lib.hid (show ((text.take T).take J).length = J by rw [List.length_take, HTL.out]; omega)
  have HTD := Lib.hid (show ((text.take T).drop J).length = 16 * (m - j) by rw [List.length_drop, HTL.out, ← ET.out, ← EJ.out, Nat.mul_sub])
  have hJ1 : ¬ (0 : Int) < (J : Int) := by omega
  have HJ0 := Lib.hid hcut
  clear hcut
  clear em eT eJ
  have hM0 : Below N w w := Below.refl _ _
  have hs0 : N ≤ w.heap.size := by omega
  have E_0 := Lib.hid (hE)
  have K_0 := Lib.hid (HK.out)
  have T_0 := Lib.hid (HT.out)
  clear hE HK HT
  go_enter Tryd.func11, Tryd.ntmps11
  go_wp2_with ((with_reducible show wpList _ _ _ _ _ w); refine box_blk (w := w) rfl 41 _ rfl start rfl ?_; intro u0 hA0 hG0 hz0; rw [hN] at hA0 hz0 ⊢)
  have hL : Below w.heap.size w u0 := below_none (Below.refl _ _) (Nat.le_refl _) hG0
  clear hG0 hz0
  have hM1 : Below N w u0 := below_more hM0 hL hs0
  have hs1 : N ≤ u0.heap.size := Nat.le_trans hs0 (hL).size
  have E_1 := Lib.hid (E_0.out.below hL)
  clear E_0
  have K_1 := Lib.hid (K_0.out.below hL)
  clear K_0
  have T_1 := Lib.hid (T_0.out.below hL)
  clear T_0
  clear hM0 hs0
  clear hL
  have S_1 := Lib.hid (hA0)
  clear hA0
  go_wp2_with fail
  refine (awake06 u0 E_1.out).mono ?_
  rintro e w2 ⟨rfl, hL⟩
  have hM2 : Below N w w2 := below_more hM1 hL hs1
  have hs2 : N ≤ w2.heap.size := Nat.le_trans hs1 (hL).size
  have E_2 := Lib.hid (E_1.out.below hL)
  clear E_1
  have K_2 := Lib.hid (K_1.out.below hL)
  clear K_1
  have T_2 := Lib.hid (T_1.out.below hL)
  clear T_1
  have S_2 := Lib.hid (S_1.out.under hL)
  clear S_1
  clear hM1 hs1
  clear hL
  go_wp2_with fail
  refine (right06 1 16 (by decide) _ key w2 K_2.out).mono ?_
  rintro e w3 ⟨vR, rfl, hO, hL⟩
  obtain ⟨AR, cR, rfl, hcR⟩ := hO.slB.formc HPR.out
  have hM3 : Below N w w3 := below_more hM2 hL hs2
  have hs3 : N ≤ w3.heap.size := Nat.le_trans hs2 (hL).size
  have E_3 := Lib.hid (E_2.out.below hL)
  clear E_2
  have K_3 := Lib.hid (K_2.out.below hL)
  clear K_2
  have T_3 := Lib.hid (T_2.out.below hL)
  clear T_2
  have S_3 := Lib.hid (S_2.out.under hL)
  clear S_2
  clear hM2 hs2
  have R_3 := Lib.hid (hO)
  clear hL hO
  go_wp2_with fail
  refine (cipher06_1 _ (.slice none 0 0) (kright key 16) [] w3 (by rw [HPR.out]; decide) R_3.out.slB (slB_nil _) (by decide)).mono ?_
  rintro e w4 ⟨q, rfl, hC, hL⟩
  obtain ⟨gq, egq⟩ : ∃ gq, q = .pointer (some ⟨gq, 0, none⟩) := by obtain ⟨gq, _, _, e, _⟩ := hC; exact ⟨gq, e⟩
  subst egq
  have hM4 : Below N w w4 := below_more hM3 hL hs3
  have hs4 : N ≤ w4.heap.size := Nat.le_trans hs3 (hL).size
  have E_4 := Lib.hid (E_3.out.below hL)
  clear E_3
  have K_4 := Lib.hid (K_3.out.below hL)
  clear K_3
  have T_4 := Lib.hid (T_3.out.below hL)
  clear T_3
  have S_4 := Lib.hid (S_3.out.under hL)
  clear S_3
  have R_4 := Lib.hid (R_3.out.under hL)
  clear R_3
  clear hM3 hs3
  have C_4 := Lib.hid (hC)
  clear hL hC
  go_wp2_with fail
  refine (Size_any _ 1 w4.heap.size (kright key 16) w4 C_4.out).mono ?_
  rintro e w4 ⟨rfl, rfl⟩
  rw [show psize 1 = 16 from rfl]
  go_wp2_with fail
  have U_4 := Lib.hid (T_4.out.take (n := T) (by rw [EL.out]; exact hT1))
  have I_4 := Lib.hid (show SlB w4 (.slice (some ⟨N, 0, none⟩) 16 16) start from (by have h := S_4.out.slTo (n := 16) HST.out (by decide) (by decide); rw [List.take_of_length_le (by rw [HST.out]; decide)] at h; exact h))
  refine (ChainedX _ _ _ w4.heap.size m 1 (kright key 16) start (text.take T) false w4 (by decide) C_4.out (Nat.le_refl _) (by rw [HPR.out]; decide) U_4.out (by rw [HTL.out]; exact ET.out.symm) hmx I_4.out HST.out).mono ?_
  rintro e w5 ⟨vP, rfl, hO, hL⟩
  have HLP := Lib.hid (show (cchain 1 (kright key 16) start (text.take T) false m).length = T from (cchain_len 1 _ _ _ _ m (by decide)).trans ET.out)
  obtain ⟨AP, cP, rfl, hcP⟩ := hO.slB.formc HLP.out
  have hM5 : Below N w w5 := below_more hM4 hL hs4
  have hs5 : N ≤ w5.heap.size := Nat.le_trans hs4 (hL).size
  have E_5 := Lib.hid (E_4.out.below hL)
  clear E_4
  have K_5 := Lib.hid (K_4.out.below hL)
  clear K_4
  have T_5 := Lib.hid (T_4.out.below hL)
  clear T_4
  have S_5 := Lib.hid (S_4.out.under hL)
  clear S_4
  have R_5 := Lib.hid (R_4.out.under hL)
  clear R_4
  have C_5 := Lib.hid (C_4.out.next hL)
  clear C_4
  have U_5 := Lib.hid (U_4.out.below hL)
  clear U_4
  have I_5 := Lib.hid (I_4.out.below hL)
  clear I_4
  clear hM4 hs4
  have P_5 := Lib.hid (hO)
  clear hL hO
  go_wp2_with fail
  have V_5 := Lib.hid (U_5.out.take (n := J) (by rw [HTL.out]; exact hj1))
  go_region_held3 (fun _ => True) (trivial) ((go_at_call 41; refine (ChainedX _ _ _ w5.heap.size j 1 (kright key 16) start ((text.take T).take J) false (w5.drewN 1) (by decide) (C_5.out.below (Drawn.below0 ⟨1, rfl⟩) (Nat.le_refl _)) (Nat.le_refl _) (by rw [HPR.out]; decide) (V_5.out.drewN 1) (by rw [HTJ.out]; exact EJ.out.symm) (Nat.le_trans HJ.out hmx) (I_5.out.drewN 1) HST.out).mono ?_; rintro e w6 ⟨vA, rfl, hO, hLx⟩; have hL : Below w5.heap.size w5 w6 := below_more (Drawn.below0 ⟨1, rfl⟩) hLx (Nat.le_refl _); have HLA := Lib.hid (show (cchain 1 (kright key 16) start ((text.take T).take J) false j).length = J from (cchain_len 1 _ _ _ _ j (by decide)).trans EJ.out); obtain ⟨AA, cA, rfl, hcA⟩ := hO.slB.formc HLA.out; have hO2 : Own w6 w5.heap.size (.slice AA J cA) (cchain 1 (kright key 16) start ((text.take T).take J) false j) := hO; clear hLx hO))
  have hM6 : Below N w w6 := below_more hM5 hL hs5
  have hs6 : N ≤ w6.heap.size := Nat.le_trans hs5 (hL).size
  have E_6 := Lib.hid (E_5.out.below hL)
  clear E_5
  have K_6 := Lib.hid (K_5.out.below hL)
  clear K_5
  have T_6 := Lib.hid (T_5.out.below hL)
  clear T_5
  have S_6 := Lib.hid (S_5.out.under hL)
  clear S_5
  have R_6 := Lib.hid (R_5.out.under hL)
  clear R_5
  have C_6 := Lib.hid (C_5.out.next hL)
  clear C_5
  have U_6 := Lib.hid (U_5.out.below hL)
  clear U_5
  have I_6 := Lib.hid (I_5.out.below hL)
  clear I_5
  have P_6 := Lib.hid (P_5.out.under hL)
  clear P_5
  have V_6 := Lib.hid (V_5.out.below hL)
  clear V_5
  clear hM5 hs5
  have A_6 := Lib.hid (hO2)
  clear hL hO2
  go_wp2_with (refine slice_from rfl _ _ rfl B T d J (text.take T) (by rfl) (by rfl) U_6.out hj1 ?_; intro B2 hD)
  have D_6 := Lib.hid (hD)
  clear hD
  refine (ChainedX _ _ _ w6.heap.size (m - j) 1 (kright key 16) start ((text.take T).drop J) false w6 (by decide) C_6.out (Nat.le_refl _) (by rw [HPR.out]; decide) D_6.out HTD.out (by omega) I_6.out HST.out).mono ?_
  rintro e w7 ⟨vB, rfl, hO, hL⟩
  have HLB := Lib.hid (show (cchain 1 (kright key 16) start ((text.take T).drop J) false (m - j)).length = T - J from by rw [show T - J = 16 * (m - j) by rw [← ET.out, ← EJ.out, Nat.mul_sub]]; exact cchain_len 1 _ _ _ _ (m - j) (by decide))
  obtain ⟨AB, cB, rfl, hcB⟩ := hO.slB.formc HLB.out
  have hM7 : Below N w w7 := below_more hM6 hL hs6
  have hs7 : N ≤ w7.heap.size := Nat.le_trans hs6 (hL).size
  have E_7 := Lib.hid (E_6.out.below hL)
  clear E_6
  have K_7 := Lib.hid (K_6.out.below hL)
  clear K_6
  have T_7 := Lib.hid (T_6.out.below hL)
  clear T_6
  have S_7 := Lib.hid (S_6.out.under hL)
  clear S_6
  have R_7 := Lib.hid (R_6.out.under hL)
  clear R_6
  have C_7 := Lib.hid (C_6.out.next hL)
  clear C_6
  have U_7 := Lib.hid (U_6.out.below hL)
  clear U_6
  have I_7 := Lib.hid (I_6.out.below hL)
  clear I_6
  have P_7 := Lib.hid (P_6.out.under hL)
  clear P_6
  have V_7 := Lib.hid (V_6.out.below hL)
  clear V_6
  have A_7 := Lib.hid (A_6.out.under hL)
  clear A_6
  have D_7 := Lib.hid (D_6.out.below hL)
  clear D_6
  clear hM6 hs6
  have B_7 := Lib.hid (hO)
  clear hL hO
  have HALL := Lib.hid (show cchain 1 (kright key 16) start (text.take T) false m = (cchain 1 (kright key 16) start ((text.take T).take J) false j) ++ (cchain 1 (kright key 16) start ((text.take T).drop J) false (m - j)) from (by have h := ch_parts 1 (kright key 16) start (text.take T) j (m - j); have e2 : (chTo 1 (kright key 16) start ((text.take T).take (psize 1 * j)) j).2 = start := (by rw [HJ0.out]; rfl); rw [e2, show j + (m - j) = m by have := HJ.out; omega, show psize 1 * j = J from EJ.out] at h; exact h))
  have HLL := Lib.hid (show ((cchain 1 (kright key 16) start ((text.take T).take J) false j) ++ (cchain 1 (kright key 16) start ((text.take T).drop J) false (m - j))).length = T by rw [List.length_append, HLA.out, HLB.out]; omega)
  have HTmx := Lib.hid (show T ≤ 1000000 by omega)
  go_wp2_with (first
    | (at_builtin; (with_reducible show wpList _ _ _ _ _ (World.alloc w7 _)); refine append_bg hu_sl hu_u8 (by kernel_rfl) _ _ rfl w7.heap.size _ [] (by rfl) (own_lit0 w7 _ (Nat.le_refl _)) _ (cchain 1 (kright key 16) start ((text.take T).take J) false j) (by rfl) (A_7.out.slB.alloc _) (by rw [HLA.out]; simp; omega) (by simp) ?_; intro vQ1 w8 hO1 hG1; have hL : Below w7.heap.size w7 w8 := (below_new ((Below.refl _ _).alloc (Nat.le_refl _) _) (by simp) hG1 (Nat.le_refl _)); have HQ1 := Lib.hid (show Own w8 w7.heap.size vQ1 (cchain 1 (kright key 16) start ((text.take T).take J) false j) from hO1); have HL1 := Lib.hid hL; have HBB := Lib.hid (B_7.out.slB.below hL); clear hO1 hG1 hL)
    | (at_builtin; (with_reducible show wpList _ _ _ _ _ w8); refine append_bg hu_sl hu_u8 (by kernel_rfl) _ _ rfl w7.heap.size _ (cchain 1 (kright key 16) start ((text.take T).take J) false j) (by rfl) HQ1.out _ (cchain 1 (kright key 16) start ((text.take T).drop J) false (m - j)) (by rfl) HBB.out (by rw [HLA.out, HLB.out]; omega) HL1.out.size ?_; intro vQ2 w9 hO3 hG3; have HL3 := Lib.hid (show Below w7.heap.size w7 w9 from below_own HL1.out HL1.out.size hG3 (fun q hq => (HQ1.out.lt q hq).1)); have HQ2 := Lib.hid hO3.slB; obtain ⟨AQ, cQ, rfl, hcQ⟩ := hO3.slB.formc HLL.out; have HPS := Lib.hid (show SlB w9 (.slice AP T cP) ((cchain 1 (kright key 16) start ((text.take T).take J) false j) ++ (cchain 1 (kright key 16) start ((text.take T).drop J) false (m - j))) from (by have h := P_7.out.slB.below HL3.out; rw [HALL.out] at h; exact h)); clear hO3 hG3)
    | (go_at_call 33; refine (Same_any _ _ ((cchain 1 (kright key 16) start ((text.take T).take J) false j) ++ (cchain 1 (kright key 16) start ((text.take T).drop J) false (m - j))) ((cchain 1 (kright key 16) start ((text.take T).take J) false j) ++ (cchain 1 (kright key 16) start ((text.take T).drop J) false (m - j))) _ HPS.out HQ2.out (by rw [HLL.out]; exact HTmx.out)).mono ?_; rintro e w99 ⟨rfl, hD⟩; rw [beq_self_eq_true]))
  go_ret
  exact ⟨rfl, by rw [HN.out]; exact below_more (below_more hM7 HL3.out hs7) hD.below0 (Nat.le_trans hs7 HL3.out.size)⟩
set_option maxHeartbeats 12800000 in
set_option maxRecDepth 100000 in
theorem ModeParts_1p (kd : UInt8) (vk : Value) (key start : List UInt8) (vt : Value) (text : List UInt8) (cut : UInt8) (w : World) (hE : Et w) (hk : SlB w vk key) (hst : start.length = 16) (ht : SlB w vt text) (hz : bv kd % 2 = 0) (hb1 : key.length ≤ 100) (hb2 : text.length ≤ 200) (hcut : ¬ cutOf 16 text cut = 0) : Calls Tryd.prog 11 #[.int .u8 (bv kd), vk, .agg (Bs start), vt, .int .u8 (bv cut)] w fun e w' => e = .returned (.bool true) ∧ Below w.heap.size w w' := by
  obtain ⟨N, hN⟩ : ∃ N, w.heap.size = N := ⟨_, rfl⟩
  have HN := Lib.hid hN
  obtain ⟨L, hL⟩ : ∃ L, text.length = L := ⟨_, rfl⟩
  obtain ⟨M, hM⟩ : ∃ M, key.length = M := ⟨_, rfl⟩
  have EL := Lib.hid hL
  have EM := Lib.hid hM
  have HK := Lib.hid hk
  have HT := Lib.hid ht
  have HST := Lib.hid hst
  obtain ⟨A, c, rfl, _, p1, p2, _⟩ := hk
  obtain ⟨B, d, rfl, _, q1, q2, _⟩ := ht
  rw [hM] at p1 HK
  rw [hL] at q1 HT
  rw [hM, hL]
  have z0 := bv_ge kd
  have z1 := bv_lt kd
  have y0 := bv_ge cut
  have y1 := bv_lt cut
  generalize bv kd = z at z0 z1 hz ⊢
  obtain ⟨y, hyy⟩ : ∃ y, bv cut = y := ⟨_, rfl⟩
  rw [hyy] at y0 y1 ⊢
  clear hL hM hst
  rw [EM.out] at hb1
  rw [EL.out] at hb2
  obtain ⟨m, em⟩ : ∃ m, L / 16 = m := ⟨_, rfl⟩
  have hT : (L : Int) / 16 * 16 = ((16 * m : Nat) : Int) := by omega
  have hT1 : 16 * m ≤ L := by omega
  have hT2 : 16 * m ≤ d := by omega
  have hT3 : ((16 * m : Nat) : Int) ≤ (d : Int) := by omega
  have hmx : m ≤ 100000 := by omega
  have hq : ((16 * m : Nat) : Int) / 16 = (m : Int) := by omega
  unfold cutOf at hcut
  rw [EL.out, em, hyy] at hcut
  obtain ⟨j, ej⟩ : ∃ j : Nat, y % ((m : Int) + 1) = (j : Int) := ⟨(y % ((m : Int) + 1)).toNat, by have := Int.emod_nonneg y (show (m : Int) + 1 ≠ 0 by omega); omega⟩
  rw [ej, Int.toNat_natCast] at hcut
  clear hyy
  have hjm : j ≤ m := by have := Int.emod_lt_of_pos y (show 0 < (m : Int) + 1 by omega); omega
  have ej2 : (j : Int) * 16 = ((16 * j : Nat) : Int) := by omega
  have hj1 : 16 * j ≤ 16 * m := by omega
  have HJ := Lib.hid hjm
  obtain ⟨T, eT⟩ : ∃ T, 16 * m = T := ⟨_, rfl⟩
  obtain ⟨J, eJ⟩ : ∃ J, 16 * j = J := ⟨_, rfl⟩
  rw [eT] at hT hT1 hT2 hT3 hq hj1
  rw [eJ] at ej2 hj1
  have ET := Lib.hid eT
  have EJ := Lib.hid eJ
  have hj2 : (J : Int) ≤ (T : Int) := by omega
  have hj3 : (J : Int) ≤ (d : Int) := by omega
  have HPR := Lib.hid (show (kright key 16).length = 16 from kright_len _ _)
  have HTL := Lib.hid (show (text.take T).length = T by rw [List.length_take, EL.out]; omega)
  have HTJ := Lib.hid (show ((text.take T).take J).length = J by rw [List.length_take, HTL.out]; omega)
  have HTD := Lib.hid (show ((text.take T).drop J).length = 16 * (m - j) by rw [List.length_drop, HTL.out, ← ET.out, ← EJ.out, Nat.mul_sub])
  have hJ1 : (0 : Int) < (J : Int) := by omega
  have hJ2 : 16 ≤ J := by omega
  have hJ3 : (16 : Int) ≤ (J : Int) := by omega
  have HJ0 := Lib.hid hcut
  clear hcut
  clear em eT eJ
  have hM0 : Below N w w := Below.refl _ _
  have hs0 : N ≤ w.heap.size := by omega
  have E_0 := Lib.hid (hE)
  have K_0 := Lib.hid (HK.out)
  have T_0 := Lib.hid (HT.out)
  clear hE HK HT
  go_enter Tryd.func11, Tryd.ntmps11
  go_wp2_with ((with_reducible show wpList _ _ _ _ _ w); refine box_blk (w := w) rfl 41 _ rfl start rfl ?_; intro u0 hA0 hG0 hz0; rw [hN] at hA0 hz0 ⊢)
  have hL : Below w.heap.size w u0 := below_none (Below.refl _ _) (Nat.le_refl _) hG0
  clear hG0 hz0
  have hM1 : Below N w u0 := below_more hM0 hL hs0
  have hs1 : N ≤ u0.heap.size := Nat.le_trans hs0 (hL).size
  have E_1 := Lib.hid (E_0.out.below hL)
  clear E_0
  have K_1 := Lib.hid (K_0.out.below hL)
  clear K_0
  have T_1 := Lib.hid (T_0.out.below hL)
  clear T_0
  clear hM0 hs0
  clear hL
  have S_1 := Lib.hid (hA0)
  clear hA0
  go_wp2_with fail
  refine (awake06 u0 E_1.out).mono ?_
  rintro e w2 ⟨rfl, hL⟩
  have hM2 : Below N w w2 := below_more hM1 hL hs1
  have hs2 : N ≤ w2.heap.size := Nat.le_trans hs1 (hL).size
  have E_2 := Lib.hid (E_1.out.below hL)
  clear E_1
  have K_2 := Lib.hid (K_1.out.below hL)
  clear K_1
  have T_2 := Lib.hid (T_1.out.below hL)
  clear T_1
  have S_2 := Lib.hid (S_1.out.under hL)
  clear S_1
  clear hM1 hs1
  clear hL
  go_wp2_with fail
  refine (right06 1 16 (by decide) _ key w2 K_2.out).mono ?_
  rintro e w3 ⟨vR, rfl, hO, hL⟩
  obtain ⟨AR, cR, rfl, hcR⟩ := hO.slB.formc HPR.out
  have hM3 : Below N w w3 := below_more hM2 hL hs2
  have hs3 : N ≤ w3.heap.size := Nat.le_trans hs2 (hL).size
  have E_3 := Lib.hid (E_2.out.below hL)
  clear E_2
  have K_3 := Lib.hid (K_2.out.below hL)
  clear K_2
  have T_3 := Lib.hid (T_2.out.below hL)
  clear T_2
  have S_3 := Lib.hid (S_2.out.under hL)
  clear S_2
  clear hM2 hs2
  have R_3 := Lib.hid (hO)
  clear hL hO
  go_wp2_with fail
  refine (cipher06_1 _ (.slice none 0 0) (kright key 16) [] w3 (by rw [HPR.out]; decide) R_3.out.slB (slB_nil _) (by decide)).mono ?_
  rintro e w4 ⟨q, rfl, hC, hL⟩
  obtain ⟨gq, egq⟩ : ∃ gq, q = .pointer (some ⟨gq, 0, none⟩) := by obtain ⟨gq, _, _, e, _⟩ := hC; exact ⟨gq, e⟩
  subst egq
  have hM4 : Below N w w4 := below_more hM3 hL hs3
  have hs4 : N ≤ w4.heap.size := Nat.le_trans hs3 (hL).size
  have E_4 := Lib.hid (E_3.out.below hL)
  clear E_3
  have K_4 := Lib.hid (K_3.out.below hL)
  clear K_3
  have T_4 := Lib.hid (T_3.out.below hL)
  clear T_3
  have S_4 := Lib.hid (S_3.out.under hL)
  clear S_3
  have R_4 := Lib.hid (R_3.out.under hL)
  clear R_3
  clear hM3 hs3
  have C_4 := Lib.hid (hC)
  clear hL hC
  go_wp2_with fail
  refine (Size_any _ 1 w4.heap.size (kright key 16) w4 C_4.out).mono ?_
  rintro e w4 ⟨rfl, rfl⟩
  rw [show psize 1 = 16 from rfl]
  go_wp2_with fail
  have U_4 := Lib.hid (T_4.out.take (n := T) (by rw [EL.out]; exact hT1))
  have I_4 := Lib.hid (show SlB w4 (.slice (some ⟨N, 0, none⟩) 16 16) start from (by have h := S_4.out.slTo (n := 16) HST.out (by decide) (by decide); rw [List.take_of_length_le (by rw [HST.out]; decide)] at h; exact h))
  refine (ChainedX _ _ _ w4.heap.size m 1 (kright key 16) start (text.take T) false w4 (by decide) C_4.out (Nat.le_refl _) (by rw [HPR.out]; decide) U_4.out (by rw [HTL.out]; exact ET.out.symm) hmx I_4.out HST.out).mono ?_
  rintro e w5 ⟨vP, rfl, hO, hL⟩
  have HLP := Lib.hid (show (cchain 1 (kright key 16) start (text.take T) false m).length = T from (cchain_len 1 _ _ _ _ m (by decide)).trans ET.out)
  obtain ⟨AP, cP, rfl, hcP⟩ := hO.slB.formc HLP.out
  have hM5 : Below N w w5 := below_more hM4 hL hs4
  have hs5 : N ≤ w5.heap.size := Nat.le_trans hs4 (hL).size
  have E_5 := Lib.hid (E_4.out.below hL)
  clear E_4
  have K_5 := Lib.hid (K_4.out.below hL)
  clear K_4
  have T_5 := Lib.hid (T_4.out.below hL)
  clear T_4
  have S_5 := Lib.hid (S_4.out.under hL)
  clear S_4
  have R_5 := Lib.hid (R_4.out.under hL)
  clear R_4
  have C_5 := Lib.hid (C_4.out.next hL)
  clear C_4
  have U_5 := Lib.hid (U_4.out.below hL)
  clear U_4
  have I_5 := Lib.hid (I_4.out.below hL)
  clear I_4
  clear hM4 hs4
  have P_5 := Lib.hid (hO)
  clear hL hO
  go_wp2_with fail
  have V_5 := Lib.hid (U_5.out.take (n := J) (by rw [HTL.out]; exact hj1))
  go_region_held3 (fun _ => True) (trivial) ((go_at_call 41; refine (ChainedX _ _ _ w5.heap.size j 1 (kright key 16) start ((text.take T).take J) false (w5.drewN 1) (by decide) (C_5.out.below (Drawn.below0 ⟨1, rfl⟩) (Nat.le_refl _)) (Nat.le_refl _) (by rw [HPR.out]; decide) (V_5.out.drewN 1) (by rw [HTJ.out]; exact EJ.out.symm) (Nat.le_trans HJ.out hmx) (I_5.out.drewN 1) HST.out).mono ?_; rintro e w6 ⟨vA, rfl, hO, hLx⟩; have hL : Below w5.heap.size w5 w6 := below_more (Drawn.below0 ⟨1, rfl⟩) hLx (Nat.le_refl _); have HLA := Lib.hid (show (cchain 1 (kright key 16) start ((text.take T).take J) false j).length = J from (cchain_len 1 _ _ _ _ j (by decide)).trans EJ.out); obtain ⟨AA, cA, rfl, hcA⟩ := hO.slB.formc HLA.out; have hO2 : Own w6 w5.heap.size (.slice AA J cA) (cchain 1 (kright key 16) start ((text.take T).take J) false j) := hO; clear hLx hO))
  have hM6 : Below N w w6 := below_more hM5 hL hs5
  have hs6 : N ≤ w6.heap.size := Nat.le_trans hs5 (hL).size
  have E_6 := Lib.hid (E_5.out.below hL)
  clear E_5
  have K_6 := Lib.hid (K_5.out.below hL)
  clear K_5
  have T_6 := Lib.hid (T_5.out.below hL)
  clear T_5
  have S_6 := Lib.hid (S_5.out.under hL)
  clear S_5
  have R_6 := Lib.hid (R_5.out.under hL)
  clear R_5
  have C_6 := Lib.hid (C_5.out.next hL)
  clear C_5
  have U_6 := Lib.hid (U_5.out.below hL)
  clear U_5
  have I_6 := Lib.hid (I_5.out.below hL)
  clear I_5
  have P_6 := Lib.hid (P_5.out.under hL)
  clear P_5
  have V_6 := Lib.hid (V_5.out.below hL)
  clear V_5
  clear hM5 hs5
  have A_6 := Lib.hid (hO2)
  clear hL hO2
  have hAf := A_6.out.form (by rw [HLA.out]; omega)
  obtain ⟨gA, cA2, eA, _, _, _, _, hcA2⟩ := hAf
  rw [HLA.out] at eA
  cases eA
  have iA : ¬ cA = J - 16 := by omega
  have jA : (J : Int) - 16 ≤ (J : Int) := by omega
  have kA : (0 : Int) ≤ (J : Int) - 16 := by omega
  have lA : ((J : Int) - 16).toNat = J - 16 := by omega
  have mA : J - (J - 16) = 16 := by omega
  have hX := A_6.out.slB.drop (k := J - 16) (by rw [HLA.out]; omega)
  have HXL := Lib.hid (show (cchain 1 (kright key 16) start ((text.take T).take J) false j).drop (J - 16) = (chTo 1 (kright key 16) start ((text.take T).take J) j).2 from by have h := chTo_drop 1 (kright key 16) start ((text.take T).take J) j (by decide) (by have := HJ0.out; omega); rw [show psize 1 * (j - 1) = J - 16 from by rw [← EJ.out, Nat.mul_sub]; rfl] at h; exact h)
  rw [HXL.out, mA] at hX
  rw [Nat.zero_add] at hX
  have X_6 := Lib.hid (hX)
  clear hX
  go_wp2_with (refine slice_from rfl _ _ rfl B T d J (text.take T) (by rfl) (by rfl) U_6.out hj1 ?_; intro B2 hD)
  have D_6 := Lib.hid (hD)
  clear hD
  refine (ChainedX _ _ _ w6.heap.size (m - j) 1 (kright key 16) (chTo 1 (kright key 16) start ((text.take T).take J) j).2 ((text.take T).drop J) false w6 (by decide) C_6.out (Nat.le_refl _) (by rw [HPR.out]; decide) D_6.out HTD.out (by omega) X_6.out (chTo_last 1 _ _ _ j (by decide) HST.out)).mono ?_
  rintro e w7 ⟨vB, rfl, hO, hL⟩
  have HLB := Lib.hid (show (cchain 1 (kright key 16) (chTo 1 (kright key 16) start ((text.take T).take J) j).2 ((text.take T).drop J) false (m - j)).length = T - J from by rw [show T - J = 16 * (m - j) by rw [← ET.out, ← EJ.out, Nat.mul_sub]]; exact cchain_len 1 _ _ _ _ (m - j) (by decide))
  obtain ⟨AB, cB, rfl, hcB⟩ := hO.slB.formc HLB.out
  have hM7 : Below N w w7 := below_more hM6 hL hs6
  have hs7 : N ≤ w7.heap.size := Nat.le_trans hs6 (hL).size
  have E_7 := Lib.hid (E_6.out.below hL)
  clear E_6
  have K_7 := Lib.hid (K_6.out.below hL)
  clear K_6
  have T_7 := Lib.hid (T_6.out.below hL)
  clear T_6
  have S_7 := Lib.hid (S_6.out.under hL)
  clear S_6
  have R_7 := Lib.hid (R_6.out.under hL)
  clear R_6
  have C_7 := Lib.hid (C_6.out.next hL)
  clear C_6
  have U_7 := Lib.hid (U_6.out.below hL)
  clear U_6
  have I_7 := Lib.hid (I_6.out.below hL)
  clear I_6
  have P_7 := Lib.hid (P_6.out.under hL)
  clear P_6
  have V_7 := Lib.hid (V_6.out.below hL)
  clear V_6
  have A_7 := Lib.hid (A_6.out.under hL)
  clear A_6
  have X_7 := Lib.hid (X_6.out.below hL)
  clear X_6
  have D_7 := Lib.hid (D_6.out.below hL)
  clear D_6
  clear hM6 hs6
  have B_7 := Lib.hid (hO)
  clear hL hO
  have HALL := Lib.hid (show cchain 1 (kright key 16) start (text.take T) false m = (cchain 1 (kright key 16) start ((text.take T).take J) false j) ++ (cchain 1 (kright key 16) (chTo 1 (kright key 16) start ((text.take T).take J) j).2 ((text.take T).drop J) false (m - j)) from (by have h := ch_parts 1 (kright key 16) start (text.take T) j (m - j); rw [show j + (m - j) = m by have := HJ.out; omega, show psize 1 * j = J from EJ.out] at h; exact h))
  have HLL := Lib.hid (show ((cchain 1 (kright key 16) start ((text.take T).take J) false j) ++ (cchain 1 (kright key 16) (chTo 1 (kright key 16) start ((text.take T).take J) j).2 ((text.take T).drop J) false (m - j))).length = T by rw [List.length_append, HLA.out, HLB.out]; omega)
  have HTmx := Lib.hid (show T ≤ 1000000 by omega)
  go_wp2_with (first
    | (at_builtin; (with_reducible show wpList _ _ _ _ _ (World.alloc w7 _)); refine append_bg hu_sl hu_u8 (by kernel_rfl) _ _ rfl w7.heap.size _ [] (by rfl) (own_lit0 w7 _ (Nat.le_refl _)) _ (cchain 1 (kright key 16) start ((text.take T).take J) false j) (by rfl) (A_7.out.slB.alloc _) (by rw [HLA.out]; simp; omega) (by simp) ?_; intro vQ1 w8 hO1 hG1; have hL : Below w7.heap.size w7 w8 := (below_new ((Below.refl _ _).alloc (Nat.le_refl _) _) (by simp) hG1 (Nat.le_refl _)); have HQ1 := Lib.hid (show Own w8 w7.heap.size vQ1 (cchain 1 (kright key 16) start ((text.take T).take J) false j) from hO1); have HL1 := Lib.hid hL; have HBB := Lib.hid (B_7.out.slB.below hL); clear hO1 hG1 hL)
    | (at_builtin; (with_reducible show wpList _ _ _ _ _ w8); refine append_bg hu_sl hu_u8 (by kernel_rfl) _ _ rfl w7.heap.size _ (cchain 1 (kright key 16) start ((text.take T).take J) false j) (by rfl) HQ1.out _ (cchain 1 (kright key 16) (chTo 1 (kright key 16) start ((text.take T).take J) j).2 ((text.take T).drop J) false (m - j)) (by rfl) HBB.out (by rw [HLA.out, HLB.out]; omega) HL1.out.size ?_; intro vQ2 w9 hO3 hG3; have HL3 := Lib.hid (show Below w7.heap.size w7 w9 from below_own HL1.out HL1.out.size hG3 (fun q hq => (HQ1.out.lt q hq).1)); have HQ2 := Lib.hid hO3.slB; obtain ⟨AQ, cQ, rfl, hcQ⟩ := hO3.slB.formc HLL.out; have HPS := Lib.hid (show SlB w9 (.slice AP T cP) ((cchain 1 (kright key 16) start ((text.take T).take J) false j) ++ (cchain 1 (kright key 16) (chTo 1 (kright key 16) start ((text.take T).take J) j).2 ((text.take T).drop J) false (m - j))) from (by have h := P_7.out.slB.below HL3.out; rw [HALL.out] at h; exact h)); clear hO3 hG3)
    | (go_at_call 33; refine (Same_any _ _ ((cchain 1 (kright key 16) start ((text.take T).take J) false j) ++ (cchain 1 (kright key 16) (chTo 1 (kright key 16) start ((text.take T).take J) j).2 ((text.take T).drop J) false (m - j))) ((cchain 1 (kright key 16) start ((text.take T).take J) false j) ++ (cchain 1 (kright key 16) (chTo 1 (kright key 16) start ((text.take T).take J) j).2 ((text.take T).drop J) false (m - j))) _ HPS.out HQ2.out (by rw [HLL.out]; exact HTmx.out)).mono ?_; rintro e w99 ⟨rfl, hD⟩; rw [beq_self_eq_true]))
  go_ret
  exact ⟨rfl, by rw [HN.out]; exact below_more (below_more hM7 HL3.out hs7) hD.below0 (Nat.le_trans hs7 HL3.out.size)⟩
set_option maxHeartbeats 3200000 in
set_option maxRecDepth 100000 in
theorem ModeParts_k2 (kd : UInt8) (vk : Value) (key start : List UInt8) (vt : Value) (text : List UInt8) (cut : UInt8) (w : World) (hE : Et w) (hk : SlB w vk key) (hst : start.length = 16) (ht : SlB w vt text) (hz : bv kd % 2 = 1) (hb : ¬ key.length ≤ 100) : Calls Tryd.prog 11 #[.int .u8 (bv kd), vk, .agg (Bs start), vt, .int .u8 (bv cut)] w fun e w' => e = .returned (.bool true) ∧ Below w.heap.size w w' := by
  obtain ⟨N, hN⟩ : ∃ N, w.heap.size = N := ⟨_, rfl⟩
  have HN := Lib.hid hN
  obtain ⟨L, hL⟩ : ∃ L, text.length = L := ⟨_, rfl⟩
  obtain ⟨M, hM⟩ : ∃ M, key.length = M := ⟨_, rfl⟩
  have EL := Lib.hid hL
  have EM := Lib.hid hM
  have HK := Lib.hid hk
  have HT := Lib.hid ht
  have HST := Lib.hid hst
  obtain ⟨A, c, rfl, _, p1, p2, _⟩ := hk
  obtain ⟨B, d, rfl, _, q1, q2, _⟩ := ht
  rw [hM] at p1 HK
  rw [hL] at q1 HT
  rw [hM, hL]
  have z0 := bv_ge kd
  have z1 := bv_lt kd
  have y0 := bv_ge cut
  have y1 := bv_lt cut
  generalize bv kd = z at z0 z1 hz ⊢
  generalize bv cut = y at y0 y1 ⊢
  clear hL hM hst
  rw [EM.out] at hb
  have hM0 : Below N w w := Below.refl _ _
  have hs0 : N ≤ w.heap.size := by omega
  have E_0 := Lib.hid (hE)
  have K_0 := Lib.hid (HK.out)
  have T_0 := Lib.hid (HT.out)
  clear hE HK HT
  go_enter Tryd.func11, Tryd.ntmps11
  go_wp2_with ((with_reducible show wpList _ _ _ _ _ w); refine box_blk (w := w) rfl 41 _ rfl start rfl ?_; intro u0 hA0 hG0 hz0; rw [hN] at hA0 hz0 ⊢)
  have hL : Below w.heap.size w u0 := below_none (Below.refl _ _) (Nat.le_refl _) hG0
  clear hG0 hz0
  have hM1 : Below N w u0 := below_more hM0 hL hs0
  have hs1 : N ≤ u0.heap.size := Nat.le_trans hs0 (hL).size
  have E_1 := Lib.hid (E_0.out.below hL)
  clear E_0
  have K_1 := Lib.hid (K_0.out.below hL)
  clear K_0
  have T_1 := Lib.hid (T_0.out.below hL)
  clear T_0
  clear hM0 hs0
  clear hL
  have S_1 := Lib.hid (hA0)
  clear hA0
  go_wp2_with fail
  refine (awake06 u0 E_1.out).mono ?_
  rintro e w2 ⟨rfl, hL⟩
  have hM2 : Below N w w2 := below_more hM1 hL hs1
  have hs2 : N ≤ w2.heap.size := Nat.le_trans hs1 (hL).size
  have E_2 := Lib.hid (E_1.out.below hL)
  clear E_1
  have K_2 := Lib.hid (K_1.out.below hL)
  clear K_1
  have T_2 := Lib.hid (T_1.out.below hL)
  clear T_1
  have S_2 := Lib.hid (S_1.out.under hL)
  clear S_1
  clear hM1 hs1
  clear hL
  go_wp2_with fail
  refine (awake06 w2 E_2.out).mono ?_
  rintro e w3 ⟨rfl, hL⟩
  have hM3 : Below N w w3 := below_more hM2 hL hs2
  have hs3 : N ≤ w3.heap.size := Nat.le_trans hs2 (hL).size
  have E_3 := Lib.hid (E_2.out.below hL)
  clear E_2
  have K_3 := Lib.hid (K_2.out.below hL)
  clear K_2
  have T_3 := Lib.hid (T_2.out.below hL)
  clear T_2
  have S_3 := Lib.hid (S_2.out.under hL)
  clear S_2
  clear hM2 hs2
  clear hL
  go_wp2_with fail
  go_ret
  exact ⟨rfl, by rw [HN.out]; exact hM3⟩
set_option maxHeartbeats 3200000 in
set_option maxRecDepth 100000 in
theorem ModeParts_t2 (kd : UInt8) (vk : Value) (key start : List UInt8) (vt : Value) (text : List UInt8) (cut : UInt8) (w : World) (hE : Et w) (hk : SlB w vk key) (hst : start.length = 16) (ht : SlB w vt text) (hz : bv kd % 2 = 1) (hb1 : key.length ≤ 100) (hb : ¬ text.length ≤ 200) : Calls Tryd.prog 11 #[.int .u8 (bv kd), vk, .agg (Bs start), vt, .int .u8 (bv cut)] w fun e w' => e = .returned (.bool true) ∧ Below w.heap.size w w' := by
  obtain ⟨N, hN⟩ : ∃ N, w.heap.size = N := ⟨_, rfl⟩
  have HN := Lib.hid hN
  obtain ⟨L, hL⟩ : ∃ L, text.length = L := ⟨_, rfl⟩
  obtain ⟨M, hM⟩ : ∃ M, key.length = M := ⟨_, rfl⟩
  have EL := Lib.hid hL
  have EM := Lib.hid hM
  have HK := Lib.hid hk
  have HT := Lib.hid ht
  have HST := Lib.hid hst
  obtain ⟨A, c, rfl, _, p1, p2, _⟩ := hk
  obtain ⟨B, d, rfl, _, q1, q2, _⟩ := ht
  rw [hM] at p1 HK
  rw [hL] at q1 HT
  rw [hM, hL]
  have z0 := bv_ge kd
  have z1 := bv_lt kd
  have y0 := bv_ge cut
  have y1 := bv_lt cut
  generalize bv kd = z at z0 z1 hz ⊢
  generalize bv cut = y at y0 y1 ⊢
  clear hL hM hst
  rw [EM.out] at hb1
  rw [EL.out] at hb
  have hM0 : Below N w w := Below.refl _ _
  have hs0 : N ≤ w.heap.size := by omega
  have E_0 := Lib.hid (hE)
  have K_0 := Lib.hid (HK.out)
  have T_0 := Lib.hid (HT.out)
  clear hE HK HT
  go_enter Tryd.func11, Tryd.ntmps11
  go_wp2_with ((with_reducible show wpList _ _ _ _ _ w); refine box_blk (w := w) rfl 41 _ rfl start rfl ?_; intro u0 hA0 hG0 hz0; rw [hN] at hA0 hz0 ⊢)
  have hL : Below w.heap.size w u0 := below_none (Below.refl _ _) (Nat.le_refl _) hG0
  clear hG0 hz0
  have hM1 : Below N w u0 := below_more hM0 hL hs0
  have hs1 : N ≤ u0.heap.size := Nat.le_trans hs0 (hL).size
  have E_1 := Lib.hid (E_0.out.below hL)
  clear E_0
  have K_1 := Lib.hid (K_0.out.below hL)
  clear K_0
  have T_1 := Lib.hid (T_0.out.below hL)
  clear T_0
  clear hM0 hs0
  clear hL
  have S_1 := Lib.hid (hA0)
  clear hA0
  go_wp2_with fail
  refine (awake06 u0 E_1.out).mono ?_
  rintro e w2 ⟨rfl, hL⟩
  have hM2 : Below N w w2 := below_more hM1 hL hs1
  have hs2 : N ≤ w2.heap.size := Nat.le_trans hs1 (hL).size
  have E_2 := Lib.hid (E_1.out.below hL)
  clear E_1
  have K_2 := Lib.hid (K_1.out.below hL)
  clear K_1
  have T_2 := Lib.hid (T_1.out.below hL)
  clear T_1
  have S_2 := Lib.hid (S_1.out.under hL)
  clear S_1
  clear hM1 hs1
  clear hL
  go_wp2_with fail
  refine (awake06 w2 E_2.out).mono ?_
  rintro e w3 ⟨rfl, hL⟩
  have hM3 : Below N w w3 := below_more hM2 hL hs2
  have hs3 : N ≤ w3.heap.size := Nat.le_trans hs2 (hL).size
  have E_3 := Lib.hid (E_2.out.below hL)
  clear E_2
  have K_3 := Lib.hid (K_2.out.below hL)
  clear K_2
  have T_3 := Lib.hid (T_2.out.below hL)
  clear T_2
  have S_3 := Lib.hid (S_2.out.under hL)
  clear S_2
  clear hM2 hs2
  clear hL
  go_wp2_with fail
  go_ret
  exact ⟨rfl, by rw [HN.out]; exact hM3⟩
set_option maxHeartbeats 12800000 in
set_option maxRecDepth 100000 in
theorem ModeParts_2z (kd : UInt8) (vk : Value) (key start : List UInt8) (vt : Value) (text : List UInt8) (cut : UInt8) (w : World) (hE : Et w) (hk : SlB w vk key) (hst : start.length = 16) (ht : SlB w vt text) (hz : bv kd % 2 = 1) (hb1 : key.length ≤ 100) (hb2 : text.length ≤ 200) (hcut : cutOf 8 text cut = 0) : Calls Tryd.prog 11 #[.int .u8 (bv kd), vk, .agg (Bs start), vt, .int .u8 (bv cut)] w fun e w' => e = .returned (.bool true) ∧ Below w.heap.size w w' := by
  obtain ⟨N, hN⟩ : ∃ N, w.heap.size = N := ⟨_, rfl⟩
  have HN := Lib.hid hN
  obtain ⟨L, hL⟩ : ∃ L, text.length = L := ⟨_, rfl⟩
  obtain ⟨M, hM⟩ : ∃ M, key.length = M := ⟨_, rfl⟩
  have EL := Lib.hid hL
  have EM := Lib.hid hM
  have HK := Lib.hid hk
  have HT := Lib.hid ht
  have HST := Lib.hid hst
  obtain ⟨A, c, rfl, _, p1, p2, _⟩ := hk
  obtain ⟨B, d, rfl, _, q1, q2, _⟩ := ht
  rw [hM] at p1 HK
  rw [hL] at q1 HT
  rw [hM, hL]
  have z0 := bv_ge kd
  have z1 := bv_lt kd
  have y0 := bv_ge cut
  have y1 := bv_lt cut
  generalize bv kd = z at z0 z1 hz ⊢
  obtain ⟨y, hyy⟩ : ∃ y, bv cut = y := ⟨_, rfl⟩
  rw [hyy] at y0 y1 ⊢
  clear hL hM hst
  rw [EM.out] at hb1
  rw [EL.out] at hb2
  obtain ⟨m, em⟩ : ∃ m, L / 8 = m := ⟨_, rfl⟩
  have hT : (L : Int) / 8 * 8 = ((8 * m : Nat) : Int) := by omega
  have hT1 : 8 * m ≤ L := by omega
  have hT2 : 8 * m ≤ d := by omega
  have hT3 : ((8 * m : Nat) : Int) ≤ (d : Int) := by omega
  have hmx : m ≤ 100000 := by omega
  have hq : ((8 * m : Nat) : Int) / 8 = (m : Int) := by omega
  unfold cutOf at hcut
  rw [EL.out, em, hyy] at hcut
  obtain ⟨j, ej⟩ : ∃ j : Nat, y % ((m : Int) + 1) = (j : Int) := ⟨(y % ((m : Int) + 1)).toNat, by have := Int.emod_nonneg y (show (m : Int) + 1 ≠ 0 by omega); omega⟩
  rw [ej, Int.toNat_natCast] at hcut
  clear hyy
  have hjm : j ≤ m := by have := Int.emod_lt_of_pos y (show 0 < (m : Int) + 1 by omega); omega
  have ej2 : (j : Int) * 8 = ((8 * j : Nat) : Int) := by omega
  have hj1 : 8 * j ≤ 8 * m := by omega
  have HJ := Lib.hid hjm
  obtain ⟨T, eT⟩ : ∃ T, 8 * m = T := ⟨_, rfl⟩
  obtain ⟨J, eJ⟩ : ∃ J, 8 * j = J := ⟨_, rfl⟩
  rw [eT] at hT hT1 hT2 hT3 hq hj1
  rw [eJ] at ej2 hj1
  have ET := Lib.hid eT
  have EJ := Lib.hid eJ
  have hj2 : (J : Int) ≤ (T : Int) := by omega
  have hj3 : (J : Int) ≤ (d : Int) := by omega
  have HPR := Lib.hid (show (kright key 24).length = 24 from kright_len _ _)
  have HTL := Lib.hid (show (text.take T).length = T by rw [List.length_take, EL.out]; omega)
  have HTJ := Lib.hid (show ((text.take T).take J).length = J by rw [List.length_take, HTL.out]; omega)
  have HTD := Lib.hid (show ((text.take T).drop J).length = 8 * (m - j) by rw [List.length_drop, HTL.out, ← ET.out, ← EJ.out, Nat.mul_sub])
  have hJ1 : ¬ (0 : Int) < (J : Int) := by omega
  have HJ0 := Lib.hid hcut
  clear hcut
  clear em eT eJ
  have hM0 : Below N w w := Below.refl _ _
  have hs0 : N ≤ w.heap.size := by omega
  have E_0 := Lib.hid (hE)
  have K_0 := Lib.hid (HK.out)
  have T_0 := Lib.hid (HT.out)
  clear hE HK HT
  go_enter Tryd.func11, Tryd.ntmps11
  go_wp2_with ((with_reducible show wpList _ _ _ _ _ w); refine box_blk (w := w) rfl 41 _ rfl start rfl ?_; intro u0 hA0 hG0 hz0; rw [hN] at hA0 hz0 ⊢)
  have hL : Below w.heap.size w u0 := below_none (Below.refl _ _) (Nat.le_refl _) hG0
  clear hG0 hz0
  have hM1 : Below N w u0 := below_more hM0 hL hs0
  have hs1 : N ≤ u0.heap.size := Nat.le_trans hs0 (hL).size
  have E_1 := Lib.hid (E_0.out.below hL)
  clear E_0
  have K_1 := Lib.hid (K_0.out.below hL)
  clear K_0
  have T_1 := Lib.hid (T_0.out.below hL)
  clear T_0
  clear hM0 hs0
  clear hL
  have S_1 := Lib.hid (hA0)
  clear hA0
  go_wp2_with fail
  refine (awake06 u0 E_1.out).mono ?_
  rintro e w2 ⟨rfl, hL⟩
  have hM2 : Below N w w2 := below_more hM1 hL hs1
  have hs2 : N ≤ w2.heap.size := Nat.le_trans hs1 (hL).size
  have E_2 := Lib.hid (E_1.out.below hL)
  clear E_1
  have K_2 := Lib.hid (K_1.out.below hL)
  clear K_1
  have T_2 := Lib.hid (T_1.out.below hL)
  clear T_1
  have S_2 := Lib.hid (S_1.out.under hL)
  clear S_1
  clear hM1 hs1
  clear hL
  go_wp2_with fail
  refine (right06 2 24 (by decide) _ key w2 K_2.out).mono ?_
  rintro e w3 ⟨vR, rfl, hO, hL⟩
  obtain ⟨AR, cR, rfl, hcR⟩ := hO.slB.formc HPR.out
  have hM3 : Below N w w3 := below_more hM2 hL hs2
  have hs3 : N ≤ w3.heap.size := Nat.le_trans hs2 (hL).size
  have E_3 := Lib.hid (E_2.out.below hL)
  clear E_2
  have K_3 := Lib.hid (K_2.out.below hL)
  clear K_2
  have T_3 := Lib.hid (T_2.out.below hL)
  clear T_2
  have S_3 := Lib.hid (S_2.out.under hL)
  clear S_2
  clear hM2 hs2
  have R_3 := Lib.hid (hO)
  clear hL hO
  go_wp2_with fail
  refine (cipher06_2 _ (.slice none 0 0) (kright key 24) [] w3 (by rw [HPR.out]; decide) R_3.out.slB (slB_nil _) (by decide)).mono ?_
  rintro e w4 ⟨q, rfl, hC, hL⟩
  obtain ⟨gq, egq⟩ : ∃ gq, q = .pointer (some ⟨gq, 0, none⟩) := by obtain ⟨gq, _, _, e, _⟩ := hC; exact ⟨gq, e⟩
  subst egq
  have hM4 : Below N w w4 := below_more hM3 hL hs3
  have hs4 : N ≤ w4.heap.size := Nat.le_trans hs3 (hL).size
  have E_4 := Lib.hid (E_3.out.below hL)
  clear E_3
  have K_4 := Lib.hid (K_3.out.below hL)
  clear K_3
  have T_4 := Lib.hid (T_3.out.below hL)
  clear T_3
  have S_4 := Lib.hid (S_3.out.under hL)
  clear S_3
  have R_4 := Lib.hid (R_3.out.under hL)
  clear R_3
  clear hM3 hs3
  have C_4 := Lib.hid (hC)
  clear hL hC
  go_wp2_with fail
  refine (Size_any _ 2 w4.heap.size (kright key 24) w4 C_4.out).mono ?_
  rintro e w4 ⟨rfl, rfl⟩
  rw [show psize 2 = 8 from rfl]
  go_wp2_with fail
  have U_4 := Lib.hid (T_4.out.take (n := T) (by rw [EL.out]; exact hT1))
  have I_4 := Lib.hid (show SlB w4 (.slice (some ⟨N, 0, none⟩) 8 16) (start.take 8) from (by have h := S_4.out.slTo (n := 8) HST.out (by decide) (by decide); exact h))
  refine (ChainedX _ _ _ w4.heap.size m 2 (kright key 24) (start.take 8) (text.take T) false w4 (by decide) C_4.out (Nat.le_refl _) (by rw [HPR.out]; decide) U_4.out (by rw [HTL.out]; exact ET.out.symm) hmx I_4.out (by rw [List.length_take, HST.out]; rfl)).mono ?_
  rintro e w5 ⟨vP, rfl, hO, hL⟩
  have HLP := Lib.hid (show (cchain 2 (kright key 24) (start.take 8) (text.take T) false m).length = T from (cchain_len 2 _ _ _ _ m (by decide)).trans ET.out)
  obtain ⟨AP, cP, rfl, hcP⟩ := hO.slB.formc HLP.out
  have hM5 : Below N w w5 := below_more hM4 hL hs4
  have hs5 : N ≤ w5.heap.size := Nat.le_trans hs4 (hL).size
  have E_5 := Lib.hid (E_4.out.below hL)
  clear E_4
  have K_5 := Lib.hid (K_4.out.below hL)
  clear K_4
  have T_5 := Lib.hid (T_4.out.below hL)
  clear T_4
  have S_5 := Lib.hid (S_4.out.under hL)
  clear S_4
  have R_5 := Lib.hid (R_4.out.under hL)
  clear R_4
  have C_5 := Lib.hid (C_4.out.next hL)
  clear C_4
  have U_5 := Lib.hid (U_4.out.below hL)
  clear U_4
  have I_5 := Lib.hid (I_4.out.below hL)
  clear I_4
  clear hM4 hs4
  have P_5 := Lib.hid (hO)
  clear hL hO
  go_wp2_with fail
  have V_5 := Lib.hid (U_5.out.take (n := J) (by rw [HTL.out]; exact hj1))
  go_region_held3 (fun _ => True) (trivial) ((go_at_call 41; refine (ChainedX _ _ _ w5.heap.size j 2 (kright key 24) (start.take 8) ((text.take T).take J) false (w5.drewN 1) (by decide) (C_5.out.below (Drawn.below0 ⟨1, rfl⟩) (Nat.le_refl _)) (Nat.le_refl _) (by rw [HPR.out]; decide) (V_5.out.drewN 1) (by rw [HTJ.out]; exact EJ.out.symm) (Nat.le_trans HJ.out hmx) (I_5.out.drewN 1) (by rw [List.length_take, HST.out]; rfl)).mono ?_; rintro e w6 ⟨vA, rfl, hO, hLx⟩; have hL : Below w5.heap.size w5 w6 := below_more (Drawn.below0 ⟨1, rfl⟩) hLx (Nat.le_refl _); have HLA := Lib.hid (show (cchain 2 (kright key 24) (start.take 8) ((text.take T).take J) false j).length = J from (cchain_len 2 _ _ _ _ j (by decide)).trans EJ.out); obtain ⟨AA, cA, rfl, hcA⟩ := hO.slB.formc HLA.out; have hO2 : Own w6 w5.heap.size (.slice AA J cA) (cchain 2 (kright key 24) (start.take 8) ((text.take T).take J) false j) := hO; clear hLx hO))
  have hM6 : Below N w w6 := below_more hM5 hL hs5
  have hs6 : N ≤ w6.heap.size := Nat.le_trans hs5 (hL).size
  have E_6 := Lib.hid (E_5.out.below hL)
  clear E_5
  have K_6 := Lib.hid (K_5.out.below hL)
  clear K_5
  have T_6 := Lib.hid (T_5.out.below hL)
  clear T_5
  have S_6 := Lib.hid (S_5.out.under hL)
  clear S_5
  have R_6 := Lib.hid (R_5.out.under hL)
  clear R_5
  have C_6 := Lib.hid (C_5.out.next hL)
  clear C_5
  have U_6 := Lib.hid (U_5.out.below hL)
  clear U_5
  have I_6 := Lib.hid (I_5.out.below hL)
  clear I_5
  have P_6 := Lib.hid (P_5.out.under hL)
  clear P_5
  have V_6 := Lib.hid (V_5.out.below hL)
  clear V_5
  clear hM5 hs5
  have A_6 := Lib.hid (hO2)
  clear hL hO2
  go_wp2_with (refine slice_from rfl _ _ rfl B T d J (text.take T) (by rfl) (by rfl) U_6.out hj1 ?_; intro B2 hD)
  have D_6 := Lib.hid (hD)
  clear hD
  refine (ChainedX _ _ _ w6.heap.size (m - j) 2 (kright key 24) (start.take 8) ((text.take T).drop J) false w6 (by decide) C_6.out (Nat.le_refl _) (by rw [HPR.out]; decide) D_6.out HTD.out (by omega) I_6.out (by rw [List.length_take, HST.out]; rfl)).mono ?_
  rintro e w7 ⟨vB, rfl, hO, hL⟩
  have HLB := Lib.hid (show (cchain 2 (kright key 24) (start.take 8) ((text.take T).drop J) false (m - j)).length = T - J from by rw [show T - J = 8 * (m - j) by rw [← ET.out, ← EJ.out, Nat.mul_sub]]; exact cchain_len 2 _ _ _ _ (m - j) (by decide))
  obtain ⟨AB, cB, rfl, hcB⟩ := hO.slB.formc HLB.out
  have hM7 : Below N w w7 := below_more hM6 hL hs6
  have hs7 : N ≤ w7.heap.size := Nat.le_trans hs6 (hL).size
  have E_7 := Lib.hid (E_6.out.below hL)
  clear E_6
  have K_7 := Lib.hid (K_6.out.below hL)
  clear K_6
  have T_7 := Lib.hid (T_6.out.below hL)
  clear T_6
  have S_7 := Lib.hid (S_6.out.under hL)
  clear S_6
  have R_7 := Lib.hid (R_6.out.under hL)
  clear R_6
  have C_7 := Lib.hid (C_6.out.next hL)
  clear C_6
  have U_7 := Lib.hid (U_6.out.below hL)
  clear U_6
  have I_7 := Lib.hid (I_6.out.below hL)
  clear I_6
  have P_7 := Lib.hid (P_6.out.under hL)
  clear P_6
  have V_7 := Lib.hid (V_6.out.below hL)
  clear V_6
  have A_7 := Lib.hid (A_6.out.under hL)
  clear A_6
  have D_7 := Lib.hid (D_6.out.below hL)
  clear D_6
  clear hM6 hs6
  have B_7 := Lib.hid (hO)
  clear hL hO
  have HALL := Lib.hid (show cchain 2 (kright key 24) (start.take 8) (text.take T) false m = (cchain 2 (kright key 24) (start.take 8) ((text.take T).take J) false j) ++ (cchain 2 (kright key 24) (start.take 8) ((text.take T).drop J) false (m - j)) from (by have h := ch_parts 2 (kright key 24) (start.take 8) (text.take T) j (m - j); have e2 : (chTo 2 (kright key 24) (start.take 8) ((text.take T).take (psize 2 * j)) j).2 = (start.take 8) := (by rw [HJ0.out]; rfl); rw [e2, show j + (m - j) = m by have := HJ.out; omega, show psize 2 * j = J from EJ.out] at h; exact h))
  have HLL := Lib.hid (show ((cchain 2 (kright key 24) (start.take 8) ((text.take T).take J) false j) ++ (cchain 2 (kright key 24) (start.take 8) ((text.take T).drop J) false (m - j))).length = T by rw [List.length_append, HLA.out, HLB.out]; omega)
  have HTmx := Lib.hid (show T ≤ 1000000 by omega)
  go_wp2_with (first
    | (at_builtin; (with_reducible show wpList _ _ _ _ _ (World.alloc w7 _)); refine append_bg hu_sl hu_u8 (by kernel_rfl) _ _ rfl w7.heap.size _ [] (by rfl) (own_lit0 w7 _ (Nat.le_refl _)) _ (cchain 2 (kright key 24) (start.take 8) ((text.take T).take J) false j) (by rfl) (A_7.out.slB.alloc _) (by rw [HLA.out]; simp; omega) (by simp) ?_; intro vQ1 w8 hO1 hG1; have hL : Below w7.heap.size w7 w8 := (below_new ((Below.refl _ _).alloc (Nat.le_refl _) _) (by simp) hG1 (Nat.le_refl _)); have HQ1 := Lib.hid (show Own w8 w7.heap.size vQ1 (cchain 2 (kright key 24) (start.take 8) ((text.take T).take J) false j) from hO1); have HL1 := Lib.hid hL; have HBB := Lib.hid (B_7.out.slB.below hL); clear hO1 hG1 hL)
    | (at_builtin; (with_reducible show wpList _ _ _ _ _ w8); refine append_bg hu_sl hu_u8 (by kernel_rfl) _ _ rfl w7.heap.size _ (cchain 2 (kright key 24) (start.take 8) ((text.take T).take J) false j) (by rfl) HQ1.out _ (cchain 2 (kright key 24) (start.take 8) ((text.take T).drop J) false (m - j)) (by rfl) HBB.out (by rw [HLA.out, HLB.out]; omega) HL1.out.size ?_; intro vQ2 w9 hO3 hG3; have HL3 := Lib.hid (show Below w7.heap.size w7 w9 from below_own HL1.out HL1.out.size hG3 (fun q hq => (HQ1.out.lt q hq).1)); have HQ2 := Lib.hid hO3.slB; obtain ⟨AQ, cQ, rfl, hcQ⟩ := hO3.slB.formc HLL.out; have HPS := Lib.hid (show SlB w9 (.slice AP T cP) ((cchain 2 (kright key 24) (start.take 8) ((text.take T).take J) false j) ++ (cchain 2 (kright key 24) (start.take 8) ((text.take T).drop J) false (m - j))) from (by have h := P_7.out.slB.below HL3.out; rw [HALL.out] at h; exact h)); clear hO3 hG3)
    | (go_at_call 33; refine (Same_any _ _ ((cchain 2 (kright key 24) (start.take 8) ((text.take T).take J) false j) ++ (cchain 2 (kright key 24) (start.take 8) ((text.take T).drop J) false (m - j))) ((cchain 2 (kright key 24) (start.take 8) ((text.take T).take J) false j) ++ (cchain 2 (kright key 24) (start.take 8) ((text.take T).drop J) false (m - j))) _ HPS.out HQ2.out (by rw [HLL.out]; exact HTmx.out)).mono ?_; rintro e w99 ⟨rfl, hD⟩; rw [beq_self_eq_true]))
  go_ret
  exact ⟨rfl, by rw [HN.out]; exact below_more (below_more hM7 HL3.out hs7) hD.below0 (Nat.le_trans hs7 HL3.out.size)⟩
set_option maxHeartbeats 12800000 in
set_option maxRecDepth 100000 in
theorem ModeParts_2p (kd : UInt8) (vk : Value) (key start : List UInt8) (vt : Value) (text : List UInt8) (cut : UInt8) (w : World) (hE : Et w) (hk : SlB w vk key) (hst : start.length = 16) (ht : SlB w vt text) (hz : bv kd % 2 = 1) (hb1 : key.length ≤ 100) (hb2 : text.length ≤ 200) (hcut : ¬ cutOf 8 text cut = 0) : Calls Tryd.prog 11 #[.int .u8 (bv kd), vk, .agg (Bs start), vt, .int .u8 (bv cut)] w fun e w' => e = .returned (.bool true) ∧ Below w.heap.size w w' := by
  obtain ⟨N, hN⟩ : ∃ N, w.heap.size = N := ⟨_, rfl⟩
  have HN := Lib.hid hN
  obtain ⟨L, hL⟩ : ∃ L, text.length = L := ⟨_, rfl⟩
  obtain ⟨M, hM⟩ : ∃ M, key.length = M := ⟨_, rfl⟩
  have EL := Lib.hid hL
  have EM := Lib.hid hM
  have HK := Lib.hid hk
  have HT := Lib.hid ht
  have HST := Lib.hid hst
  obtain ⟨A, c, rfl, _, p1, p2, _⟩ := hk
  obtain ⟨B, d, rfl, _, q1, q2, _⟩ := ht
  rw [hM] at p1 HK
  rw [hL] at q1 HT
  rw [hM, hL]
  have z0 := bv_ge kd
  have z1 := bv_lt kd
  have y0 := bv_ge cut
  have y1 := bv_lt cut
  generalize bv kd = z at z0 z1 hz ⊢
  obtain ⟨y, hyy⟩ : ∃ y, bv cut = y := ⟨_, rfl⟩
  rw [hyy] at y0 y1 ⊢
  clear hL hM hst
  rw [EM.out] at hb1
  rw [EL.out] at hb2
  obtain ⟨m, em⟩ : ∃ m, L / 8 = m := ⟨_, rfl⟩
  have hT : (L : Int) / 8 * 8 = ((8 * m : Nat) : Int) := by omega
  have hT1 : 8 * m ≤ L := by omega
  have hT2 : 8 * m ≤ d := by omega
  have hT3 : ((8 * m : Nat) : Int) ≤ (d : Int) := by omega
  have hmx : m ≤ 100000 := by omega
  have hq : ((8 * m : Nat) : Int) / 8 = (m : Int) := by omega
  unfold cutOf at hcut
  rw [EL.out, em, hyy] at hcut
  obtain ⟨j, ej⟩ : ∃ j : Nat, y % ((m : Int) + 1) = (j : Int) := ⟨(y % ((m : Int) + 1)).toNat, by have := Int.emod_nonneg y (show (m : Int) + 1 ≠ 0 by omega); omega⟩
  rw [ej, Int.toNat_natCast] at hcut
  clear hyy
  have hjm : j ≤ m := by have := Int.emod_lt_of_pos y (show 0 < (m : Int) + 1 by omega); omega
  have ej2 : (j : Int) * 8 = ((8 * j : Nat) : Int) := by omega
  have hj1 : 8 * j ≤ 8 * m := by omega
  have HJ := Lib.hid hjm
  obtain ⟨T, eT⟩ : ∃ T, 8 * m = T := ⟨_, rfl⟩
  obtain ⟨J, eJ⟩ : ∃ J, 8 * j = J := ⟨_, rfl⟩
  rw [eT] at hT hT1 hT2 hT3 hq hj1
  rw [eJ] at ej2 hj1
  have ET := Lib.hid eT
  have EJ := Lib.hid eJ
  have hj2 : (J : Int) ≤ (T : Int) := by omega
  have hj3 : (J : Int) ≤ (d : Int) := by omega
  have HPR := Lib.hid (show (kright key 24).length = 24 from kright_len _ _)
  have HTL := Lib.hid (show (text.take T).length = T by rw [List.length_take, EL.out]; omega)
  have HTJ := Lib.hid (show ((text.take T).take J).length = J by rw [List.length_take, HTL.out]; omega)
  have HTD := Lib.hid (show ((text.take T).drop J).length = 8 * (m - j) by rw [List.length_drop, HTL.out, ← ET.out, ← EJ.out, Nat.mul_sub])
  have hJ1 : (0 : Int) < (J : Int) := by omega
  have hJ2 : 8 ≤ J := by omega
  have hJ3 : (8 : Int) ≤ (J : Int) := by omega
  have HJ0 := Lib.hid hcut
  clear hcut
  clear em eT eJ
  have hM0 : Below N w w := Below.refl _ _
  have hs0 : N ≤ w.heap.size := by omega
  have E_0 := Lib.hid (hE)
  have K_0 := Lib.hid (HK.out)
  have T_0 := Lib.hid (HT.out)
  clear hE HK HT
  go_enter Tryd.func11, Tryd.ntmps11
  go_wp2_with ((with_reducible show wpList _ _ _ _ _ w); refine box_blk (w := w) rfl 41 _ rfl start rfl ?_; intro u0 hA0 hG0 hz0; rw [hN] at hA0 hz0 ⊢)
  have hL : Below w.heap.size w u0 := below_none (Below.refl _ _) (Nat.le_refl _) hG0
  clear hG0 hz0
  have hM1 : Below N w u0 := below_more hM0 hL hs0
  have hs1 : N ≤ u0.heap.size := Nat.le_trans hs0 (hL).size
  have E_1 := Lib.hid (E_0.out.below hL)
  clear E_0
  have K_1 := Lib.hid (K_0.out.below hL)
  clear K_0
  have T_1 := Lib.hid (T_0.out.below hL)
  clear T_0
  clear hM0 hs0
  clear hL
  have S_1 := Lib.hid (hA0)
  clear hA0
  go_wp2_with fail
  refine (awake06 u0 E_1.out).mono ?_
  rintro e w2 ⟨rfl, hL⟩
  have hM2 : Below N w w2 := below_more hM1 hL hs1
  have hs2 : N ≤ w2.heap.size := Nat.le_trans hs1 (hL).size
  have E_2 := Lib.hid (E_1.out.below hL)
  clear E_1
  have K_2 := Lib.hid (K_1.out.below hL)
  clear K_1
  have T_2 := Lib.hid (T_1.out.below hL)
  clear T_1
  have S_2 := Lib.hid (S_1.out.under hL)
  clear S_1
  clear hM1 hs1
  clear hL
  go_wp2_with fail
  refine (right06 2 24 (by decide) _ key w2 K_2.out).mono ?_
  rintro e w3 ⟨vR, rfl, hO, hL⟩
  obtain ⟨AR, cR, rfl, hcR⟩ := hO.slB.formc HPR.out
  have hM3 : Below N w w3 := below_more hM2 hL hs2
  have hs3 : N ≤ w3.heap.size := Nat.le_trans hs2 (hL).size
  have E_3 := Lib.hid (E_2.out.below hL)
  clear E_2
  have K_3 := Lib.hid (K_2.out.below hL)
  clear K_2
  have T_3 := Lib.hid (T_2.out.below hL)
  clear T_2
  have S_3 := Lib.hid (S_2.out.under hL)
  clear S_2
  clear hM2 hs2
  have R_3 := Lib.hid (hO)
  clear hL hO
  go_wp2_with fail
  refine (cipher06_2 _ (.slice none 0 0) (kright key 24) [] w3 (by rw [HPR.out]; decide) R_3.out.slB (slB_nil _) (by decide)).mono ?_
  rintro e w4 ⟨q, rfl, hC, hL⟩
  obtain ⟨gq, egq⟩ : ∃ gq, q = .pointer (some ⟨gq, 0, none⟩) := by obtain ⟨gq, _, _, e, _⟩ := hC; exact ⟨gq, e⟩
  subst egq
  have hM4 : Below N w w4 := below_more hM3 hL hs3
  have hs4 : N ≤ w4.heap.size := Nat.le_trans hs3 (hL).size
  have E_4 := Lib.hid (E_3.out.below hL)
  clear E_3
  have K_4 := Lib.hid (K_3.out.below hL)
  clear K_3
  have T_4 := Lib.hid (T_3.out.below hL)
  clear T_3
  have S_4 := Lib.hid (S_3.out.under hL)
  clear S_3
  have R_4 := Lib.hid (R_3.out.under hL)
  clear R_3
  clear hM3 hs3
  have C_4 := Lib.hid (hC)
  clear hL hC
  go_wp2_with fail
  refine (Size_any _ 2 w4.heap.size (kright key 24) w4 C_4.out).mono ?_
  rintro e w4 ⟨rfl, rfl⟩
  rw [show psize 2 = 8 from rfl]
  go_wp2_with fail
  have U_4 := Lib.hid (T_4.out.take (n := T) (by rw [EL.out]; exact hT1))
  have I_4 := Lib.hid (show SlB w4 (.slice (some ⟨N, 0, none⟩) 8 16) (start.take 8) from (by have h := S_4.out.slTo (n := 8) HST.out (by decide) (by decide); exact h))
  refine (ChainedX _ _ _ w4.heap.size m 2 (kright key 24) (start.take 8) (text.take T) false w4 (by decide) C_4.out (Nat.le_refl _) (by rw [HPR.out]; decide) U_4.out (by rw [HTL.out]; exact ET.out.symm) hmx I_4.out (by rw [List.length_take, HST.out]; rfl)).mono ?_
  rintro e w5 ⟨vP, rfl, hO, hL⟩
  have HLP := Lib.hid (show (cchain 2 (kright key 24) (start.take 8) (text.take T) false m).length = T from (cchain_len 2 _ _ _ _ m (by decide)).trans ET.out)
  obtain ⟨AP, cP, rfl, hcP⟩ := hO.slB.formc HLP.out
  have hM5 : Below N w w5 := below_more hM4 hL hs4
  have hs5 : N ≤ w5.heap.size := Nat.le_trans hs4 (hL).size
  have E_5 := Lib.hid (E_4.out.below hL)
  clear E_4
  have K_5 := Lib.hid (K_4.out.below hL)
  clear K_4
  have T_5 := Lib.hid (T_4.out.below hL)
  clear T_4
  have S_5 := Lib.hid (S_4.out.under hL)
  clear S_4
  have R_5 := Lib.hid (R_4.out.under hL)
  clear R_4
  have C_5 := Lib.hid (C_4.out.next hL)
  clear C_4
  have U_5 := Lib.hid (U_4.out.below hL)
  clear U_4
  have I_5 := Lib.hid (I_4.out.below hL)
  clear I_4
  clear hM4 hs4
  have P_5 := Lib.hid (hO)
  clear hL hO
  go_wp2_with fail
  have V_5 := Lib.hid (U_5.out.take (n := J) (by rw [HTL.out]; exact hj1))
  go_region_held3 (fun _ => True) (trivial) ((go_at_call 41; refine (ChainedX _ _ _ w5.heap.size j 2 (kright key 24) (start.take 8) ((text.take T).take J) false (w5.drewN 1) (by decide) (C_5.out.below (Drawn.below0 ⟨1, rfl⟩) (Nat.le_refl _)) (Nat.le_refl _) (by rw [HPR.out]; decide) (V_5.out.drewN 1) (by rw [HTJ.out]; exact EJ.out.symm) (Nat.le_trans HJ.out hmx) (I_5.out.drewN 1) (by rw [List.length_take, HST.out]; rfl)).mono ?_; rintro e w6 ⟨vA, rfl, hO, hLx⟩; have hL : Below w5.heap.size w5 w6 := below_more (Drawn.below0 ⟨1, rfl⟩) hLx (Nat.le_refl _); have HLA := Lib.hid (show (cchain 2 (kright key 24) (start.take 8) ((text.take T).take J) false j).length = J from (cchain_len 2 _ _ _ _ j (by decide)).trans EJ.out); obtain ⟨AA, cA, rfl, hcA⟩ := hO.slB.formc HLA.out; have hO2 : Own w6 w5.heap.size (.slice AA J cA) (cchain 2 (kright key 24) (start.take 8) ((text.take T).take J) false j) := hO; clear hLx hO))
  have hM6 : Below N w w6 := below_more hM5 hL hs5
  have hs6 : N ≤ w6.heap.size := Nat.le_trans hs5 (hL).size
  have E_6 := Lib.hid (E_5.out.below hL)
  clear E_5
  have K_6 := Lib.hid (K_5.out.below hL)
  clear K_5
  have T_6 := Lib.hid (T_5.out.below hL)
  clear T_5
  have S_6 := Lib.hid (S_5.out.under hL)
  clear S_5
  have R_6 := Lib.hid (R_5.out.under hL)
  clear R_5
  have C_6 := Lib.hid (C_5.out.next hL)
  clear C_5
  have U_6 := Lib.hid (U_5.out.below hL)
  clear U_5
  have I_6 := Lib.hid (I_5.out.below hL)
  clear I_5
  have P_6 := Lib.hid (P_5.out.under hL)
  clear P_5
  have V_6 := Lib.hid (V_5.out.below hL)
  clear V_5
  clear hM5 hs5
  have A_6 := Lib.hid (hO2)
  clear hL hO2
  have hAf := A_6.out.form (by rw [HLA.out]; omega)
  obtain ⟨gA, cA2, eA, _, _, _, _, hcA2⟩ := hAf
  rw [HLA.out] at eA
  cases eA
  have iA : ¬ cA = J - 8 := by omega
  have jA : (J : Int) - 8 ≤ (J : Int) := by omega
  have kA : (0 : Int) ≤ (J : Int) - 8 := by omega
  have lA : ((J : Int) - 8).toNat = J - 8 := by omega
  have mA : J - (J - 8) = 8 := by omega
  have hX := A_6.out.slB.drop (k := J - 8) (by rw [HLA.out]; omega)
  have HXL := Lib.hid (show (cchain 2 (kright key 24) (start.take 8) ((text.take T).take J) false j).drop (J - 8) = (chTo 2 (kright key 24) (start.take 8) ((text.take T).take J) j).2 from by have h := chTo_drop 2 (kright key 24) (start.take 8) ((text.take T).take J) j (by decide) (by have := HJ0.out; omega); rw [show psize 2 * (j - 1) = J - 8 from by rw [← EJ.out, Nat.mul_sub]; rfl] at h; exact h)
  rw [HXL.out, mA] at hX
  rw [Nat.zero_add] at hX
  have X_6 := Lib.hid (hX)
  clear hX
  go_wp2_with (refine slice_from rfl _ _ rfl B T d J (text.take T) (by rfl) (by rfl) U_6.out hj1 ?_; intro B2 hD)
  have D_6 := Lib.hid (hD)
  clear hD
  refine (ChainedX _ _ _ w6.heap.size (m - j) 2 (kright key 24) (chTo 2 (kright key 24) (start.take 8) ((text.take T).take J) j).2 ((text.take T).drop J) false w6 (by decide) C_6.out (Nat.le_refl _) (by rw [HPR.out]; decide) D_6.out HTD.out (by omega) X_6.out (chTo_last 2 _ _ _ j (by decide) (by rw [List.length_take, HST.out]; rfl))).mono ?_
  rintro e w7 ⟨vB, rfl, hO, hL⟩
  have HLB := Lib.hid (show (cchain 2 (kright key 24) (chTo 2 (kright key 24) (start.take 8) ((text.take T).take J) j).2 ((text.take T).drop J) false (m - j)).length = T - J from by rw [show T - J = 8 * (m - j) by rw [← ET.out, ← EJ.out, Nat.mul_sub]]; exact cchain_len 2 _ _ _ _ (m - j) (by decide))
  obtain ⟨AB, cB, rfl, hcB⟩ := hO.slB.formc HLB.out
  have hM7 : Below N w w7 := below_more hM6 hL hs6
  have hs7 : N ≤ w7.heap.size := Nat.le_trans hs6 (hL).size
  have E_7 := Lib.hid (E_6.out.below hL)
  clear E_6
  have K_7 := Lib.hid (K_6.out.below hL)
  clear K_6
  have T_7 := Lib.hid (T_6.out.below hL)
  clear T_6
  have S_7 := Lib.hid (S_6.out.under hL)
  clear S_6
  have R_7 := Lib.hid (R_6.out.under hL)
  clear R_6
  have C_7 := Lib.hid (C_6.out.next hL)
  clear C_6
  have U_7 := Lib.hid (U_6.out.below hL)
  clear U_6
  have I_7 := Lib.hid (I_6.out.below hL)
  clear I_6
  have P_7 := Lib.hid (P_6.out.under hL)
  clear P_6
  have V_7 := Lib.hid (V_6.out.below hL)
  clear V_6
  have A_7 := Lib.hid (A_6.out.under hL)
  clear A_6
  have X_7 := Lib.hid (X_6.out.below hL)
  clear X_6
  have D_7 := Lib.hid (D_6.out.below hL)
  clear D_6
  clear hM6 hs6
  have B_7 := Lib.hid (hO)
  clear hL hO
  have HALL := Lib.hid (show cchain 2 (kright key 24) (start.take 8) (text.take T) false m = (cchain 2 (kright key 24) (start.take 8) ((text.take T).take J) false j) ++ (cchain 2 (kright key 24) (chTo 2 (kright key 24) (start.take 8) ((text.take T).take J) j).2 ((text.take T).drop J) false (m - j)) from (by have h := ch_parts 2 (kright key 24) (start.take 8) (text.take T) j (m - j); rw [show j + (m - j) = m by have := HJ.out; omega, show psize 2 * j = J from EJ.out] at h; exact h))
  have HLL := Lib.hid (show ((cchain 2 (kright key 24) (start.take 8) ((text.take T).take J) false j) ++ (cchain 2 (kright key 24) (chTo 2 (kright key 24) (start.take 8) ((text.take T).take J) j).2 ((text.take T).drop J) false (m - j))).length = T by rw [List.length_append, HLA.out, HLB.out]; omega)
  have HTmx := Lib.hid (show T ≤ 1000000 by omega)
  go_wp2_with (first
    | (at_builtin; (with_reducible show wpList _ _ _ _ _ (World.alloc w7 _)); refine append_bg hu_sl hu_u8 (by kernel_rfl) _ _ rfl w7.heap.size _ [] (by rfl) (own_lit0 w7 _ (Nat.le_refl _)) _ (cchain 2 (kright key 24) (start.take 8) ((text.take T).take J) false j) (by rfl) (A_7.out.slB.alloc _) (by rw [HLA.out]; simp; omega) (by simp) ?_; intro vQ1 w8 hO1 hG1; have hL : Below w7.heap.size w7 w8 := (below_new ((Below.refl _ _).alloc (Nat.le_refl _) _) (by simp) hG1 (Nat.le_refl _)); have HQ1 := Lib.hid (show Own w8 w7.heap.size vQ1 (cchain 2 (kright key 24) (start.take 8) ((text.take T).take J) false j) from hO1); have HL1 := Lib.hid hL; have HBB := Lib.hid (B_7.out.slB.below hL); clear hO1 hG1 hL)
    | (at_builtin; (with_reducible show wpList _ _ _ _ _ w8); refine append_bg hu_sl hu_u8 (by kernel_rfl) _ _ rfl w7.heap.size _ (cchain 2 (kright key 24) (start.take 8) ((text.take T).take J) false j) (by rfl) HQ1.out _ (cchain 2 (kright key 24) (chTo 2 (kright key 24) (start.take 8) ((text.take T).take J) j).2 ((text.take T).drop J) false (m - j)) (by rfl) HBB.out (by rw [HLA.out, HLB.out]; omega) HL1.out.size ?_; intro vQ2 w9 hO3 hG3; have HL3 := Lib.hid (show Below w7.heap.size w7 w9 from below_own HL1.out HL1.out.size hG3 (fun q hq => (HQ1.out.lt q hq).1)); have HQ2 := Lib.hid hO3.slB; obtain ⟨AQ, cQ, rfl, hcQ⟩ := hO3.slB.formc HLL.out; have HPS := Lib.hid (show SlB w9 (.slice AP T cP) ((cchain 2 (kright key 24) (start.take 8) ((text.take T).take J) false j) ++ (cchain 2 (kright key 24) (chTo 2 (kright key 24) (start.take 8) ((text.take T).take J) j).2 ((text.take T).drop J) false (m - j))) from (by have h := P_7.out.slB.below HL3.out; rw [HALL.out] at h; exact h)); clear hO3 hG3)
    | (go_at_call 33; refine (Same_any _ _ ((cchain 2 (kright key 24) (start.take 8) ((text.take T).take J) false j) ++ (cchain 2 (kright key 24) (chTo 2 (kright key 24) (start.take 8) ((text.take T).take J) j).2 ((text.take T).drop J) false (m - j))) ((cchain 2 (kright key 24) (start.take 8) ((text.take T).take J) false j) ++ (cchain 2 (kright key 24) (chTo 2 (kright key 24) (start.take 8) ((text.take T).take J) j).2 ((text.take T).drop J) false (m - j))) _ HPS.out HQ2.out (by rw [HLL.out]; exact HTmx.out)).mono ?_; rintro e w99 ⟨rfl, hD⟩; rw [beq_self_eq_true]))
  go_ret
  exact ⟨rfl, by rw [HN.out]; exact below_more (below_more hM7 HL3.out hs7) hD.below0 (Nat.le_trans hs7 HL3.out.size)⟩
theorem ModeParts_any (kd : UInt8) (vk : Value) (key start : List UInt8) (vt : Value) (text : List UInt8) (cut : UInt8) (w : World) (hE : Et w) (hk : SlB w vk key) (hst : start.length = 16) (ht : SlB w vt text) : Calls Tryd.prog 11 #[.int .u8 (bv kd), vk, .agg (Bs start), vt, .int .u8 (bv cut)] w fun e w' => e = .returned (.bool true) ∧ Below w.heap.size w w' := by
  have hp : bv kd % 2 = 0 ∨ bv kd % 2 = 1 := by omega
  by_cases h1 : key.length ≤ 100
  · by_cases h2 : text.length ≤ 200
    · rcases hp with hz | hz
      · by_cases hc : cutOf 16 text cut = 0
        · exact ModeParts_1z kd vk key start vt text cut w hE hk hst ht hz h1 h2 hc
        · exact ModeParts_1p kd vk key start vt text cut w hE hk hst ht hz h1 h2 hc
      · by_cases hc : cutOf 8 text cut = 0
        · exact ModeParts_2z kd vk key start vt text cut w hE hk hst ht hz h1 h2 hc
        · exact ModeParts_2p kd vk key start vt text cut w hE hk hst ht hz h1 h2 hc
    · rcases hp with hz | hz
      · exact ModeParts_t1 kd vk key start vt text cut w hE hk hst ht hz h1 h2
      · exact ModeParts_t2 kd vk key start vt text cut w hE hk hst ht hz h1 h2
  · rcases hp with hz | hz
    · exact ModeParts_k1 kd vk key start vt text cut w hE hk hst ht hz h1
    · exact ModeParts_k2 kd vk key start vt text cut w hE hk hst ht hz h1
end Go.Proofs.YtjbdhnmkeaogcaaDoor
set_option linter.unusedVariables false
set_option linter.unusedSimpArgs false
namespace Lk
open Go Go.RowKit
/-- a slice of whole numbers as it is read -/
def IsRow (k : IntKind) (w : World) (a : Option Addr) (len cap : Nat) (zs : List Int) : Prop :=
  (a = none ∧ len = 0 ∧ cap = 0 ∧ zs = []) ∨
  ∃ x, a = some x ∧ len ≤ cap ∧ cap ≤ maxLen ∧ zs.length = cap ∧ (∀ i, i < zs.length → w.cell? (x.add i) = some (.int k (zs.getD i 0))) ∧ ∀ n ∈ zs, (Lit.int k n).wf = true
theorem u8_of_wf {n : Int} (h : (Lit.int .u8 n).wf = true) : n = bv (UInt8.ofNat n.toNat) := by
  obtain ⟨a, rfl⟩ := open_u8 h
  unfold bv
  simp
theorem slB_of_row {w : World} {a : Option Addr} {len cap : Nat} {zs : List Int} (h : IsRow .u8 w a len cap zs) : ∃ l : List UInt8, l.length = len ∧ SlB w (.slice a len cap) l := by
  rcases h with ⟨rfl, rfl, rfl, rfl⟩ | ⟨x, rfl, h1, h2, h3, h4, h5⟩
  · exact ⟨[], rfl, none, 0, rfl, fun _ => rfl, Nat.le_refl _, Nat.zero_le _, fun h => by omega⟩
  · have hl : ((zs.take len).map fun z => UInt8.ofNat z.toNat).length = len := by simp; omega
    refine ⟨(zs.take len).map fun z => UInt8.ofNat z.toNat, hl, some x, cap, by rw [hl], fun h => (by cases h), by rw [hl]; exact h1, h2, fun hc => ?_⟩
    have hx : x.spot = none := by
      have := h4 0 (by omega)
      have e : x.add 0 = x := by simp [Addr.add]
      rw [e] at this
      unfold World.cell? at this
      split at this
      · split at this
        · cases this
        · rename_i hs; simpa using hs
      · cases this
    obtain ⟨g, o, s⟩ := x
    cases hx
    refine ⟨g, o, rfl, fun k hk => ?_⟩
    rw [hl] at hk
    have hc := h4 k (by omega)
    have ea : (⟨g, o, none⟩ : Addr).add k = ⟨g, o + k, none⟩ := by unfold Addr.add; split <;> simp_all
    rw [ea] at hc
    rw [hc]
    have hm : zs.getD k 0 ∈ zs := by
      have : k < zs.length := by omega
      simp [this]
    have := u8_of_wf (h5 _ hm)
    have e : g8 ((zs.take len).map fun z => UInt8.ofNat z.toNat) k = UInt8.ofNat (zs.getD k 0).toNat := by
      unfold g8
      have : k < zs.length := by omega
      simp [List.getElem?_take, hk, this]
    rw [e, ← this]
section
variable {P : Program} {H : Type} {enc : TypeId × Value → H}
theorem open_slice_u8 {t e : TypeId} {W : World} {a : Option Addr} {len cap : Nat} {d : DataW H} {ps : List MemPlace} (ht : P.underlying t = some (.slice e)) (he : P.underlying e = some (.int .u8)) (hc : P.cellsOf e = 1)
    (h : DataW.Trod enc P W 0 (fun _ => true) true t (.slice a len cap) d ps) : ∃ l : List UInt8, l.length = len ∧ SlB W (.slice a len cap) l := by
  obtain ⟨zs, hz⟩ : ∃ zs, IsRow .u8 W a len cap zs := by
    obtain ⟨fuel, hf⟩ := h
    rcases Go.ChangeShapes.open_ints ht he hc hf with ⟨hcs, _⟩ | ⟨x, l, c, zs, hcs, _, hl, hm, hz, _, hcell, hwz⟩
    · simp [Value.cells] at hcs
      obtain ⟨rfl, rfl, rfl⟩ := hcs
      exact ⟨[], .inl ⟨rfl, rfl, rfl, rfl⟩⟩
    · simp [Value.cells] at hcs
      obtain ⟨rfl, rfl, rfl⟩ := hcs
      exact ⟨zs, .inr ⟨_, rfl, hl, hm, by simpa using hz, hcell, hwz⟩⟩
  exact slB_of_row hz
/-- an array of bytes -/
theorem open_arr_u8 {t e n : Nat} {W : World} {r : Reach} {base : Nat} {v : Value} (ht : P.underlying t = some (.array n e)) (he : P.underlying e = some (.int .u8)) (hc : P.cellsOf t = n) (hct : P.cellTypes P.depth t = some (List.replicate n e)) (hn : 0 < n)
    (h : Value.okWide P W r base t v) : ∃ l : List UInt8, l.length = n ∧ v = .agg (Bs l) := by
  simp only [Value.okWide, ht] at h
  obtain ⟨cs, rfl, hsz, ts, hts, _, hcell⟩ := h
  rw [hct] at hts
  cases hts
  rw [hc] at hsz
  refine ⟨cs.toList.map fun v => match v with | .int _ z => UInt8.ofNat z.toNat | _ => 0, by simp [hsz], ?_⟩
  congr 1
  apply Array.ext
  · simp [Bs]
  · intro i h1 h2
    obtain ⟨u, hu, hok⟩ := hcell i cs[i] (by simp [h1])
    have hue : u = e := by
      rw [List.getElem?_replicate] at hu
      split at hu
      · cases hu; rfl
      · cases hu
    subst hue
    simp only [Cell.okWide, he] at hok
    simp only [Bs, List.map_map, List.getElem_toArray, List.getElem_map, Function.comp_apply, Array.getElem_toList]
    cases hv : cs[i] with
    | int k z =>
      rw [hv] at hok
      simp only [Cell.ok, he] at hok
      obtain ⟨rfl, hw⟩ := hok
      have hw' : (Lit.int .u8 z).wf = true := by
        unfold Lit.wf
        rw [Bool.and_eq_true]
        exact ⟨decide_eq_true hw.1, decide_eq_true hw.2⟩
      simp only [← u8_of_wf hw']
    | _ => rw [hv] at hok; simp [Cell.ok, he] at hok
end
end Lk
set_option linter.unusedVariables false
namespace Go.Proofs.YtjbdhnmkeaogcaaDoor
open Go.ChangeShapes Go.WideShapes Go.RowKit
theorem ownKnobNone : ownKnob Tryd.prog.godebug = none := by kernel_rfl
theorem laidOutAll : laidOutB Tryd.prog = true := by kernel_rfl
theorem fct_laid : laidOutB Tryd.checked.prog = true := by kernel_rfl
theorem fct_maps : mapsRowed Tryd.checked.prog = true := by kernel_rfl
theorem fct_main : Tryd.pinned.checked.prog.mainIs = some (true, "8650a698aaa6e7940681561f98863e190d5ec889b7f6ab40edacde75e00aa3ea".toList) := by kernel_rfl
theorem fct_looks : true = Tryd.pinned.checked.prog.looks [] := by kernel_rfl
def laidList : List (String × DataW Unit) := [("errors.errorType", Rows.laid_errors_errorType)]
theorem et_g : Tryd.prog.globalNamed "errors.errorType" = some 0 := by kernel_rfl
theorem et_rt : (Tryd.prog.cutTypes.find? (·.1 == "internal/reflectlite.rtype")).map (·.2) = some 171 := by kernel_rfl
theorem et_row : ((List.range 242).filter fun t => Tryd.prog.rowNamed t [101, 114, 114, 111, 114]) = [29] := by kernel_rfl
theorem et_size : Tryd.prog.types.size = 242 := by kernel_rfl
theorem handle_of_laid {W : World} (h : laidMetH Tryd.prog laidList W) : Et W := by
  have h' : laidMet Tryd.prog [] W ∧ handlesMet Tryd.prog laidList W := h
  obtain ⟨name, u, ty, e1, e2, e3, e4, e5⟩ := h'.2 _ (List.mem_singleton.2 rfl)
  have en : name = [101, 114, 114, 111, 114] := (Option.some.inj e1).symm
  subst en
  obtain rfl := Option.some.inj (et_rt.symm.trans e2)
  have hm : ty ∈ (List.range 242).filter fun t => Tryd.prog.rowNamed t [101, 114, 114, 111, 114] := List.mem_filter.2 ⟨List.mem_range.2 (by rw [← et_size]; exact e3), e4⟩
  rw [et_row] at hm
  obtain rfl := List.mem_singleton.1 hm
  have hh : typeHandle Tryd.prog 29 = .pointer (some ⟨1, 29, none⟩) := by kernel_rfl
  rw [hh] at e5
  have := World.var?_cell et_g e5 0
  unfold Et hnd
  simpa using this
noncomputable def laidWorld (os : Os) : World :=
  let w0 := World.holding Tryd.prog os ⟨#[], #[], []⟩
  { w0 with heap := w0.heap.modify 0 fun
      | .cells _ t frozen => .cells #[.iface 171 (.agg #[.pointer (some ⟨1, 29, none⟩)])] t frozen
      | o => o }
theorem laidWorld_met (os : Os) (args : Array Value) : laidMetH Tryd.prog laidList ((laidWorld os).forCall (fun _ _ => 0) ⟨#[], args, []⟩).memory :=
  laidMetH_of_parts (laidMet_nil _ _) (by kernel_rfl)
end Go.Proofs.YtjbdhnmkeaogcaaDoor
namespace Go.Proofs.YtjbdhnmkeaogcaaDoor.modeParts
open Go.ChangeShapes Go.WideShapes Go.ChangeAt Go.RowKit Lk
open Go.ChangeMaps (open_string shut_string)
set_option linter.unusedVariables false
set_option linter.unusedSimpArgs false
set_option maxRecDepth 100000 in
theorem lifted (os : Os) (started : os.Started) (H : Type) (enc : TypeId × Value → H) :
    ReturnsInHanded {} Tryd.checked os 11 .any (fun w args => (Rows.modePartsSpec.pre enc Tryd.prog Tryd.f11 [] false w args ∧ laidMetH Tryd.prog laidList w) ∧ sizedMet enc Tryd.prog Tryd.f11 (OpenSpec.ofChange Rows.modePartsSpec) false w args)
      (Rows.modePartsSpec.post enc Tryd.prog Tryd.f11 false true false false) := by
  refine returnsInHanded_of_change_and (C := Tryd.checked) (X := fun w _ => laidMetH Tryd.prog laidList w) (fun _ _ _ hh h => h.of_heap hh) ownKnobNone started (by kernel_rfl) Tryd.func11
    (ChangeSpec.witness_at (enc := enc) (C := Tryd.checked) (os := os) (X := fun w _ => laidMetH Tryd.prog laidList w) false (laidWorld os) #[.int .u8 0, .slice none 0 0, .agg #[.int .u8 0, .int .u8 0, .int .u8 0, .int .u8 0, .int .u8 0, .int .u8 0, .int .u8 0, .int .u8 0, .int .u8 0, .int .u8 0, .int .u8 0, .int .u8 0, .int .u8 0, .int .u8 0, .int .u8 0, .int .u8 0], .slice none 0 0, .int .u8 0] 8 rfl (by kernel_rfl) (by kernel_rfl) (by kernel_rfl) (by kernel_rfl) (by kernel_rfl) (laidWorld_met os _)) ?_
  intro W base args ds gs before hval0 hW _ _ hLd _
  have hval : ∀ (j : Nat) t v, Tryd.f11.params[j]? = some t → args[j]? = some v → Value.okWide Tryd.prog W .any base t v := hval0
  have hW' := hW
  obtain ⟨p, q, hA0, hV, rfl, hfz, hnd⟩ := hW
  have hA : DataW.TrodAll enc Tryd.prog W 0 (fun _ => true) true Tryd.f11.params.toList args.toList ds p := hA0
  have hEt : Et W := handle_of_laid hLd
  rw [Tryd.params11] at hA hval
  obtain ⟨v0, vs0, d0, ds0, p0, q0, hargs, rfl, rfl, h0, r0⟩ := trodAll_cons hA
  obtain ⟨v1, vs1, d1, ds1, p1, q1, rfl, rfl, rfl, h1, r1⟩ := trodAll_cons r0
  obtain ⟨v2, vs2, d2, ds2, p2, q2, rfl, rfl, rfl, h2, r2⟩ := trodAll_cons r1
  obtain ⟨v3, vs3, d3, ds3, p3, q3, rfl, rfl, rfl, h3, r3⟩ := trodAll_cons r2
  obtain ⟨v4, vs4, d4, ds4, p4, q4, rfl, rfl, rfl, h4, r4⟩ := trodAll_cons r3
  obtain ⟨rfl, rfl, rfl⟩ := trodAll_nil r4
  obtain rfl : args = #[v0, v1, v2, v3, v4] := by cases args; simp_all
  obtain ⟨rfl, rfl⟩ := trodVars_none hV
  have k0 := h0
  have lt0 : ∀ x ∈ p0, x.block < W.heap.size := by obtain ⟨m, hm⟩ := k0; exact DataW.trod_lt m _ _ _ hm
  obtain ⟨a0, rfl, rfl, rfl, w0⟩ := open_int Tryd.underlying5 (hval 0 5 v0 rfl rfl) h0
  obtain ⟨b0, rfl⟩ := Lk.open_u8 w0
  have k1 := h1
  have lt1 : ∀ x ∈ p1, x.block < W.heap.size := by obtain ⟨m, hm⟩ := k1; exact DataW.trod_lt m _ _ _ hm
  obtain ⟨a1, len1, cap1, rfl⟩ := okWide_slice Tryd.underlying22 (hval 1 22 v1 rfl rfl)
  obtain ⟨l1, hl1, s1⟩ := open_slice_u8 Tryd.underlying22 Tryd.underlying5 (by kernel_rfl) h1
  have k2 := h2
  have lt2 : ∀ x ∈ p2, x.block < W.heap.size := by obtain ⟨m, hm⟩ := k2; exact DataW.trod_lt m _ _ _ hm
  obtain ⟨l2, hl2, rfl⟩ := open_arr_u8 Tryd.underlying41 Tryd.underlying5 (by kernel_rfl) (by kernel_rfl) (by decide) (hval 2 41 v2 rfl rfl)
  have k3 := h3
  have lt3 : ∀ x ∈ p3, x.block < W.heap.size := by obtain ⟨m, hm⟩ := k3; exact DataW.trod_lt m _ _ _ hm
  obtain ⟨a3, len3, cap3, rfl⟩ := okWide_slice Tryd.underlying22 (hval 3 22 v3 rfl rfl)
  obtain ⟨l3, hl3, s3⟩ := open_slice_u8 Tryd.underlying22 Tryd.underlying5 (by kernel_rfl) h3
  have k4 := h4
  have lt4 : ∀ x ∈ p4, x.block < W.heap.size := by obtain ⟨m, hm⟩ := k4; exact DataW.trod_lt m _ _ _ hm
  obtain ⟨a4, rfl, rfl, rfl, w4⟩ := open_int Tryd.underlying5 (hval 4 5 v4 rfl rfl) h4
  obtain ⟨b4, rfl⟩ := Lk.open_u8 w4
  clear hA0 hval0
  refine (ModeParts_any b0 _ l1 l2 _ l3 b4 W hEt s1 hl2 s3).mono fun e W' ⟨he, bel⟩ => ?_
  subst he
  exact ⟨_, rfl, _, _, _, [], _, [], hW', trodAll_mk1 (shut_bool Tryd.underlying4 _), (trodAll_cons_mk (Below.trod laidOutAll (by kernel_rfl) (of_decide_eq_true (by kernel_rfl)) k0 bel lt0) (trodAll_cons_mk (Below.trod laidOutAll (by kernel_rfl) (of_decide_eq_true (by kernel_rfl)) k1 bel lt1) (trodAll_cons_mk (Below.trod laidOutAll (by kernel_rfl) (of_decide_eq_true (by kernel_rfl)) k2 bel lt2) (trodAll_cons_mk (Below.trod laidOutAll (by kernel_rfl) (of_decide_eq_true (by kernel_rfl)) k3 bel lt3) (trodAll_cons_mk (Below.trod laidOutAll (by kernel_rfl) (of_decide_eq_true (by kernel_rfl)) k4 bel lt4) trodAll_mk0))))), rfl, bel.frame _, fun h => by cases h⟩
set_option maxHeartbeats 8000000 in
theorem closed : joinedFacts Tryd.checked.prog 11 Tryd.f11 Rows.modePartsSpec Rows.modePartsRow = true := by
  unfold joinedFacts
  simp only [Bool.and_eq_true]
  repeat' apply And.intro
  all_goals first | with_reducible exact fct_laid | with_reducible exact fct_maps | as_aux_lemma => kernel_rfl
theorem named_f : Tryd.prog.funcNamed "lockbox/lockboxlaw06.ModeParts" = some 11 := by kernel_rfl
theorem over : Rows.ModePartsSaid :=
  OpenClaim.holds_of_wide 11 Tryd.f11 rfl rfl rfl rfl rfl rfl rfl ⟨rfl, rfl, rfl, rfl, rfl⟩ rfl rfl rfl rfl rfl named_f Tryd.func11 closed
    (of_decide_eq_true (by kernel_rfl)) (by unfold Func.isWrapper; first | (rw [if_pos (by decide +kernel)]; kernel_rfl) | (rw [if_neg (by decide +kernel)]; exact ⟨rfl, rfl⟩))
    (fun os started H enc _ => lifted os started H enc)
theorem params_ok (j : Nat) (t : TypeId) (ht : Tryd.f11.params[j]? = some t) : Tryd.prog.wantsStandIn t = false := by
  rw [Tryd.params11] at ht
  have hm : t ∈ #[5, 22, 41, 22, 5] := Array.mem_of_getElem? ht
  simp only [List.mem_toArray, List.mem_cons, List.not_mem_nil, or_false] at hm
  rcases hm with rfl | rfl | rfl | rfl | rfl
  · show Tryd.prog.wantsStandIn 5 = false
    kernel_rfl
  · show Tryd.prog.wantsStandIn 22 = false
    kernel_rfl
  · show Tryd.prog.wantsStandIn 41 = false
    kernel_rfl
  · show Tryd.prog.wantsStandIn 22 = false
    kernel_rfl
  · show Tryd.prog.wantsStandIn 5 = false
    kernel_rfl
theorem wf_text : Rows.modePartsRow.wfByText (OpenSpec.ofChange Rows.modePartsSpec) = true := by kernel_rfl
theorem goes_no : false = Rows.modePartsRow.goesBy Tryd.pinned.checked.prog := by kernel_rfl
theorem card_holds : Rows.ModePartsCardSaid :=
  Claim7.holds_tied_plain_at .later [] [.handle] true (true, "8650a698aaa6e7940681561f98863e190d5ec889b7f6ab40edacde75e00aa3ea") true
    over (fun _ h => by cases h) wf_text (fun _ h => by cases h) modeParts_row_tie rfl ⟨rfl, rfl⟩ fct_main rfl
    (fun f fn hf hfn => by
      obtain rfl : f = 11 := Option.some.inj (named_f.symm.trans hf) |>.symm
      obtain rfl : fn = Tryd.f11 := (Option.some.inj (Tryd.func11.symm.trans hfn)).symm
      exact ⟨fct_looks, fun j t ht => params_ok j t ht⟩)
    goes_no
#print axioms card_holds
end Go.Proofs.YtjbdhnmkeaogcaaDoor.modeParts
namespace Go.Proofs.YtjbdhnmkeaogcaaDoor
/-- The card, under a short name, for the claim. -/
theorem modeParts_holds : Rows.ModePartsCardSaid := modeParts.card_holds
end Go.Proofs.YtjbdhnmkeaogcaaDoor
