/- For whatever key, start and text the law ModeKeeps of the layer of modes returns true (what is handed in stays, what is answered is new memory), and its arguments read as they did; the variable errors.errorType starts as the program lays it. -/
import Derived.Test.YtjbdhnmkeaogcaaDoorKM1
import Derived.Test.YtjbdhnmkeaogcaaDoorKM2
import Derived.Test.YtjbdhnmkeaogcaaDoorKB5
import Derived.Test.YtjbdhnmkeaogcaaDoorKB6
import Derived.Test.YtjbdhnmkeaogcaaDoorKB0
import Derived.WalkKit
import Derived.ProofKit
import Derived.OpenShut
import Derived.ShutString
import Derived.ChangeOld
import Derived.SizedLaws
import Derived.ChangeSlices
import Derived.Test.YtjbdhnmkeaogcaaDoorRows
import Derived.ChangeSame
import Derived.ChangeVars
import Derived.JoinedOf
import Derived.RowKit
import Derived.RowKitTokens
import Derived.LaidLaws
import Derived.LaidHandle
import Derived.Stop.Joined
import Derived.SevenTiedAt
import Derived.Test.YtjbdhnmkeaogcaaDoorCards
import Derived.Test.YtjbdhnmkeaogcaaDoorTie
set_option linter.unusedVariables false
set_option linter.unusedSimpArgs false
namespace Go.Proofs.YtjbdhnmkeaogcaaDoor
open Go.RowKit Lk
set_option maxHeartbeats 3200000 in
set_option maxRecDepth 100000 in
theorem ModeKeeps_fk (vk : Value) (key start : List UInt8) (vt : Value) (text : List UInt8) (w : World) (hE : Et w) (hk : SlB w vk key) (hst : start.length = 16) (ht : SlB w vt text) (hb : ¬ key.length ≤ 100) : Calls Tryd.prog 12 #[vk, .agg (Bs start), vt] w fun e w' => e = .returned (.bool true) ∧ Below w.heap.size w w' := by
  obtain ⟨N, hN⟩ : ∃ N, w.heap.size = N := ⟨_, rfl⟩
  have HN := Lib.hid hN
  obtain ⟨L, hL⟩ : ∃ L, text.length = L := ⟨_, rfl⟩
  obtain ⟨M, hM⟩ : ∃ M, key.length = M := ⟨_, rfl⟩
  have EL := Lib.hid hL
  have EM := Lib.hid hM
  have HK := Lib.hid hk
  have HT := Lib.hid ht
  have HST := Lib.hid hst
  obtain ⟨A, c, rfl, _, p1, p2, _⟩ := hk
  obtain ⟨B, d, rfl, _, q1, q2, _⟩ := ht
  rw [hM] at p1 HK
  rw [hL] at q1 HT
  rw [hM, hL]
  have hq := fun w => run_eql_bs (P := Tryd.prog) w (t := 41) (e := 5) start start (by kernel_rfl) (by kernel_rfl) (by kernel_rfl) (by kernel_rfl) hst hst
  simp only [beq_self_eq_true] at hq
  clear hL hM hst
  rw [EM.out] at hb
  have hM0 : Below N w w := Below.refl _ _
  have hs0 : N ≤ w.heap.size := by omega
  have E_0 := Lib.hid (hE)
  have K_0 := Lib.hid (HK.out)
  have T_0 := Lib.hid (HT.out)
  clear hE HK HT
  go_enter Tryd.func12, Tryd.ntmps12
  go_wp2_with ((with_reducible show wpList _ _ _ _ _ w); refine box_blk (w := w) rfl 41 _ rfl start rfl ?_; intro u0 hA0 hG0 hz0; rw [hN] at hA0 hz0 ⊢)
  have hL : Below w.heap.size w u0 := below_none (Below.refl _ _) (Nat.le_refl _) hG0
  clear hG0 hz0
  have hM1 : Below N w u0 := below_more hM0 hL hs0
  have hs1 : N ≤ u0.heap.size := Nat.le_trans hs0 (hL).size
  have E_1 := Lib.hid (E_0.out.below hL)
  clear E_0
  have K_1 := Lib.hid (K_0.out.below hL)
  clear K_0
  have T_1 := Lib.hid (T_0.out.below hL)
  clear T_0
  clear hM0 hs0
  clear hL
  have S_1 := Lib.hid (hA0)
  clear hA0
  go_wp2_with fail
  refine (awake06 u0 E_1.out).mono ?_
  rintro e w2 ⟨rfl, hL⟩
  have hM2 : Below N w w2 := below_more hM1 hL hs1
  have hs2 : N ≤ w2.heap.size := Nat.le_trans hs1 (hL).size
  have E_2 := Lib.hid (E_1.out.below hL)
  clear E_1
  have K_2 := Lib.hid (K_1.out.below hL)
  clear K_1
  have T_2 := Lib.hid (T_1.out.below hL)
  clear T_1
  have S_2 := Lib.hid (S_1.out.under hL)
  clear S_1
  clear hM1 hs1
  clear hL
  go_wp2_with fail
  refine (awake06 w2 E_2.out).mono ?_
  rintro e w3 ⟨rfl, hL⟩
  have hM3 : Below N w w3 := below_more hM2 hL hs2
  have hs3 : N ≤ w3.heap.size := Nat.le_trans hs2 (hL).size
  have E_3 := Lib.hid (E_2.out.below hL)
  clear E_2
  have K_3 := Lib.hid (K_2.out.below hL)
  clear K_2
  have T_3 := Lib.hid (T_2.out.below hL)
  clear T_2
  have S_3 := Lib.hid (S_2.out.under hL)
  clear S_2
  clear hM2 hs2
  clear hL
  go_wp2_with fail
  go_ret
  exact ⟨rfl, by rw [HN.out]; exact hM3⟩
set_option maxHeartbeats 3200000 in
set_option maxRecDepth 100000 in
theorem ModeKeeps_ft (vk : Value) (key start : List UInt8) (vt : Value) (text : List UInt8) (w : World) (hE : Et w) (hk : SlB w vk key) (hst : start.length = 16) (ht : SlB w vt text) (hb1 : key.length ≤ 100) (hb : ¬ text.length ≤ 200) : Calls Tryd.prog 12 #[vk, .agg (Bs start), vt] w fun e w' => e = .returned (.bool true) ∧ Below w.heap.size w w' := by
  obtain ⟨N, hN⟩ : ∃ N, w.heap.size = N := ⟨_, rfl⟩
  have HN := Lib.hid hN
  obtain ⟨L, hL⟩ : ∃ L, text.length = L := ⟨_, rfl⟩
  obtain ⟨M, hM⟩ : ∃ M, key.length = M := ⟨_, rfl⟩
  have EL := Lib.hid hL
  have EM := Lib.hid hM
  have HK := Lib.hid hk
  have HT := Lib.hid ht
  have HST := Lib.hid hst
  obtain ⟨A, c, rfl, _, p1, p2, _⟩ := hk
  obtain ⟨B, d, rfl, _, q1, q2, _⟩ := ht
  rw [hM] at p1 HK
  rw [hL] at q1 HT
  rw [hM, hL]
  have hq := fun w => run_eql_bs (P := Tryd.prog) w (t := 41) (e := 5) start start (by kernel_rfl) (by kernel_rfl) (by kernel_rfl) (by kernel_rfl) hst hst
  simp only [beq_self_eq_true] at hq
  clear hL hM hst
  rw [EM.out] at hb1
  rw [EL.out] at hb
  have hM0 : Below N w w := Below.refl _ _
  have hs0 : N ≤ w.heap.size := by omega
  have E_0 := Lib.hid (hE)
  have K_0 := Lib.hid (HK.out)
  have T_0 := Lib.hid (HT.out)
  clear hE HK HT
  go_enter Tryd.func12, Tryd.ntmps12
  go_wp2_with ((with_reducible show wpList _ _ _ _ _ w); refine box_blk (w := w) rfl 41 _ rfl start rfl ?_; intro u0 hA0 hG0 hz0; rw [hN] at hA0 hz0 ⊢)
  have hL : Below w.heap.size w u0 := below_none (Below.refl _ _) (Nat.le_refl _) hG0
  clear hG0 hz0
  have hM1 : Below N w u0 := below_more hM0 hL hs0
  have hs1 : N ≤ u0.heap.size := Nat.le_trans hs0 (hL).size
  have E_1 := Lib.hid (E_0.out.below hL)
  clear E_0
  have K_1 := Lib.hid (K_0.out.below hL)
  clear K_0
  have T_1 := Lib.hid (T_0.out.below hL)
  clear T_0
  clear hM0 hs0
  clear hL
  have S_1 := Lib.hid (hA0)
  clear hA0
  go_wp2_with fail
  refine (awake06 u0 E_1.out).mono ?_
  rintro e w2 ⟨rfl, hL⟩
  have hM2 : Below N w w2 := below_more hM1 hL hs1
  have hs2 : N ≤ w2.heap.size := Nat.le_trans hs1 (hL).size
  have E_2 := Lib.hid (E_1.out.below hL)
  clear E_1
  have K_2 := Lib.hid (K_1.out.below hL)
  clear K_1
  have T_2 := Lib.hid (T_1.out.below hL)
  clear T_1
  have S_2 := Lib.hid (S_1.out.under hL)
  clear S_1
  clear hM1 hs1
  clear hL
  go_wp2_with fail
  refine (awake06 w2 E_2.out).mono ?_
  rintro e w3 ⟨rfl, hL⟩
  have hM3 : Below N w w3 := below_more hM2 hL hs2
  have hs3 : N ≤ w3.heap.size := Nat.le_trans hs2 (hL).size
  have E_3 := Lib.hid (E_2.out.below hL)
  clear E_2
  have K_3 := Lib.hid (K_2.out.below hL)
  clear K_2
  have T_3 := Lib.hid (T_2.out.below hL)
  clear T_2
  have S_3 := Lib.hid (S_2.out.under hL)
  clear S_2
  clear hM2 hs2
  clear hL
  go_wp2_with fail
  go_ret
  exact ⟨rfl, by rw [HN.out]; exact hM3⟩
set_option maxHeartbeats 12800000 in
set_option maxRecDepth 100000 in
theorem ModeKeeps_z (vk : Value) (key start : List UInt8) (vt : Value) (text : List UInt8) (w : World) (hE : Et w) (hk : SlB w vk key) (hst : start.length = 16) (ht : SlB w vt text) (hb1 : key.length ≤ 100) (hb2 : text.length ≤ 200) (hz : text.length / 16 = 0) : Calls Tryd.prog 12 #[vk, .agg (Bs start), vt] w fun e w' => e = .returned (.bool true) ∧ Below w.heap.size w w' := by
  obtain ⟨N, hN⟩ : ∃ N, w.heap.size = N := ⟨_, rfl⟩
  have HN := Lib.hid hN
  obtain ⟨L, hL⟩ : ∃ L, text.length = L := ⟨_, rfl⟩
  obtain ⟨M, hM⟩ : ∃ M, key.length = M := ⟨_, rfl⟩
  have EL := Lib.hid hL
  have EM := Lib.hid hM
  have HK := Lib.hid hk
  have HT := Lib.hid ht
  have HST := Lib.hid hst
  obtain ⟨A, c, rfl, _, p1, p2, _⟩ := hk
  obtain ⟨B, d, rfl, _, q1, q2, _⟩ := ht
  rw [hM] at p1 HK
  rw [hL] at q1 HT
  rw [hM, hL]
  have hq := fun w => run_eql_bs (P := Tryd.prog) w (t := 41) (e := 5) start start (by kernel_rfl) (by kernel_rfl) (by kernel_rfl) (by kernel_rfl) hst hst
  simp only [beq_self_eq_true] at hq
  clear hL hM hst
  rw [EM.out] at hb1
  rw [EL.out] at hb2
  obtain ⟨m, em⟩ : ∃ m, L / 16 = m := ⟨_, rfl⟩
  have hT : (L : Int) / 16 * 16 = ((16 * m : Nat) : Int) := by omega
  have hT1 : 16 * m ≤ L := by omega
  have hT2 : 16 * m ≤ d := by omega
  have hT3 : ((16 * m : Nat) : Int) ≤ (d : Int) := by omega
  have hmx : m ≤ 100000 := by omega
  obtain ⟨T, eT⟩ : ∃ T, 16 * m = T := ⟨_, rfl⟩
  rw [eT] at hT hT1 hT2 hT3
  have ET := Lib.hid eT
  have hTm : T ≤ 1000000 := by omega
  have HPR := Lib.hid (show (kright key 16).length = 16 from kright_len _ _)
  have HTL := Lib.hid (show (text.take T).length = T by rw [List.length_take, EL.out]; omega)
  have HZ := Lib.hid (show T = 0 by rw [EL.out, em] at hz; omega)
  have hTn : ¬ (0 : Int) < (T : Int) := by rw [EL.out, em] at hz; omega
  clear em eT hz
  have hM0 : Below N w w := Below.refl _ _
  have hs0 : N ≤ w.heap.size := by omega
  have E_0 := Lib.hid (hE)
  have K_0 := Lib.hid (HK.out)
  have T_0 := Lib.hid (HT.out)
  clear hE HK HT
  go_enter Tryd.func12, Tryd.ntmps12
  go_wp2_with ((with_reducible show wpList _ _ _ _ _ w); refine box_blk (w := w) rfl 41 _ rfl start rfl ?_; intro u0 hA0 hG0 hz0; rw [hN] at hA0 hz0 ⊢)
  have hL : Below w.heap.size w u0 := below_none (Below.refl _ _) (Nat.le_refl _) hG0
  clear hG0 hz0
  have hM1 : Below N w u0 := below_more hM0 hL hs0
  have hs1 : N ≤ u0.heap.size := Nat.le_trans hs0 (hL).size
  have E_1 := Lib.hid (E_0.out.below hL)
  clear E_0
  have K_1 := Lib.hid (K_0.out.below hL)
  clear K_0
  have T_1 := Lib.hid (T_0.out.below hL)
  clear T_0
  clear hM0 hs0
  clear hL
  have S_1 := Lib.hid (hA0)
  clear hA0
  go_wp2_with fail
  refine (awake06 u0 E_1.out).mono ?_
  rintro e w2 ⟨rfl, hL⟩
  have hM2 : Below N w w2 := below_more hM1 hL hs1
  have hs2 : N ≤ w2.heap.size := Nat.le_trans hs1 (hL).size
  have E_2 := Lib.hid (E_1.out.below hL)
  clear E_1
  have K_2 := Lib.hid (K_1.out.below hL)
  clear K_1
  have T_2 := Lib.hid (T_1.out.below hL)
  clear T_1
  have S_2 := Lib.hid (S_1.out.under hL)
  clear S_1
  clear hM1 hs1
  clear hL
  go_wp2_with fail
  refine (right06 1 16 (by decide) _ key w2 K_2.out).mono ?_
  rintro e w3 ⟨vR, rfl, hO, hL⟩
  obtain ⟨AR, cR, rfl, hcR⟩ := hO.slB.formc HPR.out
  have hM3 : Below N w w3 := below_more hM2 hL hs2
  have hs3 : N ≤ w3.heap.size := Nat.le_trans hs2 (hL).size
  have E_3 := Lib.hid (E_2.out.below hL)
  clear E_2
  have K_3 := Lib.hid (K_2.out.below hL)
  clear K_2
  have T_3 := Lib.hid (T_2.out.below hL)
  clear T_2
  have S_3 := Lib.hid (S_2.out.under hL)
  clear S_2
  clear hM2 hs2
  have R_3 := Lib.hid (hO)
  clear hL hO
  go_wp2_with fail
  refine (cipher06_1 _ (.slice none 0 0) (kright key 16) [] w3 (by rw [HPR.out]; decide) R_3.out.slB (slB_nil _) (by decide)).mono ?_
  rintro e w4 ⟨q, rfl, hC, hL⟩
  obtain ⟨gq, egq⟩ : ∃ gq, q = .pointer (some ⟨gq, 0, none⟩) := by obtain ⟨gq, _, _, e, _⟩ := hC; exact ⟨gq, e⟩
  subst egq
  have hM4 : Below N w w4 := below_more hM3 hL hs3
  have hs4 : N ≤ w4.heap.size := Nat.le_trans hs3 (hL).size
  have E_4 := Lib.hid (E_3.out.below hL)
  clear E_3
  have K_4 := Lib.hid (K_3.out.below hL)
  clear K_3
  have T_4 := Lib.hid (T_3.out.below hL)
  clear T_3
  have S_4 := Lib.hid (S_3.out.under hL)
  clear S_3
  have R_4 := Lib.hid (R_3.out.under hL)
  clear R_3
  clear hM3 hs3
  have C_4 := Lib.hid (hC)
  clear hL hC
  have U_4 := Lib.hid (T_4.out.take (n := T) (by rw [EL.out]; exact hT1))
  go_wp2_with (first | (at_builtin; (with_reducible show wpList _ _ _ _ _ (World.alloc w4 _)); (refine append_b hu_sl hu_u8 rfl _ _ rfl w4.heap.size _ [] (by rfl) (own_lit0 w4 _ (Nat.le_refl _)) _ (text.take T) (by rfl) (U_4.out.alloc _) (by rw [HTL.out]; simp; omega) (by simp) ?_); intro vW w5 hOW hGW; have hL : Below w4.heap.size w4 w5 := below_new ((Below.refl _ _).alloc (Nat.le_refl _) _) (by simp) hGW (Nat.le_refl _); have hO2 : Own w5 w4.heap.size vW (text.take T) := hOW; clear hGW hOW; have hM5 : Below N w w5 := below_more hM4 hL hs4; have hs5 : N ≤ w5.heap.size := Nat.le_trans hs4 (hL).size; have E_5 := Lib.hid (E_4.out.below hL); clear E_4; have K_5 := Lib.hid (K_4.out.below hL); clear K_4; have T_5 := Lib.hid (T_4.out.below hL); clear T_4; have S_5 := Lib.hid (S_4.out.under hL); clear S_4; have R_5 := Lib.hid (R_4.out.under hL); clear R_4; have C_5 := Lib.hid (C_4.out.next hL); clear C_4; have U_5 := Lib.hid (U_4.out.below hL); clear U_4; clear hM4 hs4; have W_5 := Lib.hid (hO2); clear hL hO2; obtain ⟨AW, cW, rfl, hcW⟩ := W_5.out.slB.formc HTL.out) | ((with_reducible show wpList _ _ _ _ _ w5); refine load_blk (w := w5) rfl 41 _ rfl N 41 16 5 start (by rfl) S_5.out HST.out (by kernel_rfl) (by kernel_rfl) ?_) | ((with_reducible show wpList _ _ _ _ _ w5); refine alloc_row (w := w5) rfl 41 rfl (.agg (Bs (List.replicate 16 0))) 16 (fun _ => by kernel_rfl) rfl ?_; intro u5 hR5 _ hG5 hz5) | ((with_reducible show wpList _ _ _ _ _ u5); refine store_blk (w := u5) rfl 41 _ _ rfl w5.heap.size 41 16 start (by rfl) (by rfl) hR5 HST.out (by kernel_rfl) ?_; intro w6 hB6 hG6 hz6; have hL : Below w5.heap.size w5 w6 := below_new (below_none (Below.refl _ _) (Nat.le_refl _) hG5) (by omega) hG6 (Nat.le_refl _); obtain ⟨gf, egf⟩ : ∃ g, w5.heap.size = g := ⟨_, rfl⟩; have hB7 := hB6; rw [egf] at hB7 ⊢; clear hR5 hG5 hz5 hB6 hG6 hz6 egf; have hM6 : Below N w w6 := below_more hM5 hL hs5; have hs6 : N ≤ w6.heap.size := Nat.le_trans hs5 (hL).size; have E_6 := Lib.hid (E_5.out.below hL); clear E_5; have K_6 := Lib.hid (K_5.out.below hL); clear K_5; have T_6 := Lib.hid (T_5.out.below hL); clear T_5; have S_6 := Lib.hid (S_5.out.under hL); clear S_5; have R_6 := Lib.hid (R_5.out.under hL); clear R_5; have C_6 := Lib.hid (C_5.out.next hL); clear C_5; have U_6 := Lib.hid (U_5.out.below hL); clear U_5; have W_6 := Lib.hid (W_5.out.under hL); clear W_5; clear hM5 hs5; have Fr_6 := Lib.hid (hB7); clear hL hB7))
  refine (ChainedX _ _ _ w6.heap.size m 1 (kright key 16) start (text.take T) false w6 (by decide) C_6.out (Nat.le_refl _) (by rw [HPR.out]; decide) U_6.out (by rw [HTL.out]; exact ET.out.symm) hmx (by have h := S_6.out.slTo (n := 16) HST.out (by decide) (by decide); rw [List.take_of_length_le (by rw [HST.out]; decide)] at h; exact h) HST.out).mono ?_
  rintro e w7 ⟨vX, rfl, hO, hL⟩
  obtain ⟨lx, elx⟩ : ∃ l, cchain 1 (kright key 16) start (text.take T) false m = l := ⟨_, rfl⟩
  rw [elx] at hO
  have HLX := Lib.hid (show lx.length = T by rw [← elx]; exact (cchain_len 1 _ _ _ _ m (by decide)).trans ET.out)
  clear elx
  obtain ⟨AX, cX, rfl, hcX⟩ := hO.slB.formc HLX.out
  have hM7 : Below N w w7 := below_more hM6 hL hs6
  have hs7 : N ≤ w7.heap.size := Nat.le_trans hs6 (hL).size
  have E_7 := Lib.hid (E_6.out.below hL)
  clear E_6
  have K_7 := Lib.hid (K_6.out.below hL)
  clear K_6
  have T_7 := Lib.hid (T_6.out.below hL)
  clear T_6
  have S_7 := Lib.hid (S_6.out.under hL)
  clear S_6
  have R_7 := Lib.hid (R_6.out.under hL)
  clear R_6
  have C_7 := Lib.hid (C_6.out.next hL)
  clear C_6
  have U_7 := Lib.hid (U_6.out.below hL)
  clear U_6
  have W_7 := Lib.hid (W_6.out.under hL)
  clear W_6
  have Fr_7 := Lib.hid (Fr_6.out.under hL)
  clear Fr_6
  clear hM6 hs6
  have X_7 := Lib.hid (hO)
  clear hL hO
  go_wp2_with fail
  refine (AloneX _ _ w7.heap.size m 1 (kright key 16) (text.take T) true w7 (by decide) C_7.out (Nat.le_refl _) (by rw [HPR.out]; decide) U_7.out (by rw [HTL.out]; exact ET.out.symm) hmx).mono ?_
  rintro e w8 ⟨vY, rfl, hO, hL⟩
  obtain ⟨ly, ely⟩ : ∃ l, aloneTo 1 (kright key 16) (text.take T) true m = l := ⟨_, rfl⟩
  rw [ely] at hO
  have HLY := Lib.hid (show ly.length = T by rw [← ely]; exact (aloneTo_len 1 _ _ _ m (by decide)).trans ET.out)
  clear ely
  obtain ⟨AY, cY, rfl, hcY⟩ := hO.slB.formc HLY.out
  have hM8 : Below N w w8 := below_more hM7 hL hs7
  have hs8 : N ≤ w8.heap.size := Nat.le_trans hs7 (hL).size
  have E_8 := Lib.hid (E_7.out.below hL)
  clear E_7
  have K_8 := Lib.hid (K_7.out.below hL)
  clear K_7
  have T_8 := Lib.hid (T_7.out.below hL)
  clear T_7
  have S_8 := Lib.hid (S_7.out.under hL)
  clear S_7
  have R_8 := Lib.hid (R_7.out.under hL)
  clear R_7
  have C_8 := Lib.hid (C_7.out.next hL)
  clear C_7
  have U_8 := Lib.hid (U_7.out.below hL)
  clear U_7
  have W_8 := Lib.hid (W_7.out.under hL)
  clear W_7
  have Fr_8 := Lib.hid (Fr_7.out.under hL)
  clear Fr_7
  have X_8 := Lib.hid (X_7.out.under hL)
  clear X_7
  clear hM7 hs7
  have Y_8 := Lib.hid (hO)
  clear hL hO
  go_wp2_with fail
  refine (Xor_own _ _ (text.take T) (text.take T) w8 U_8.out U_8.out rfl (by rw [HTL.out]; omega)).mono ?_
  rintro e w9 ⟨vZ, rfl, hO, hL⟩
  obtain ⟨lz, elz⟩ : ∃ l, pxor (text.take T) (text.take T) = l := ⟨_, rfl⟩
  rw [elz] at hO
  have HLZ := Lib.hid (show lz.length = T by rw [← elz, pxor_len]; exact HTL.out)
  clear elz
  obtain ⟨AZ, cZ, rfl, hcZ⟩ := hO.slB.formc HLZ.out
  have hM9 : Below N w w9 := below_more hM8 hL hs8
  have hs9 : N ≤ w9.heap.size := Nat.le_trans hs8 (hL).size
  have E_9 := Lib.hid (E_8.out.below hL)
  clear E_8
  have K_9 := Lib.hid (K_8.out.below hL)
  clear K_8
  have T_9 := Lib.hid (T_8.out.below hL)
  clear T_8
  have S_9 := Lib.hid (S_8.out.under hL)
  clear S_8
  have R_9 := Lib.hid (R_8.out.under hL)
  clear R_8
  have C_9 := Lib.hid (C_8.out.next hL)
  clear C_8
  have U_9 := Lib.hid (U_8.out.below hL)
  clear U_8
  have W_9 := Lib.hid (W_8.out.under hL)
  clear W_8
  have Fr_9 := Lib.hid (Fr_8.out.under hL)
  clear Fr_8
  have X_9 := Lib.hid (X_8.out.under hL)
  clear X_8
  have Y_9 := Lib.hid (Y_8.out.under hL)
  clear Y_8
  clear hM8 hs8
  have Z_9 := Lib.hid (hO)
  clear hL hO
  go_wp2_with fail
  obtain ⟨wq, ewq⟩ : ∃ wq : World, wq = w9 := ⟨_, rfl⟩
  go_loopw [18] (fun i wr => i = .int .i64 0 ∧ wr = w9) (fun i _ => 0)
  case atStart => exact ⟨rfl, rfl⟩
  case round =>
    obtain ⟨rfl, rfl⟩ := hrel
    go_wp2_with fail
    refine (Same_any _ _ (text.take T) (text.take T) wr U_9.out W_9.out.slB (by rw [HTL.out]; omega)).mono ?_
    rintro e w10 ⟨rfl, hD⟩
    rw [beq_self_eq_true]
    have hM10 : Below N w w10 := below_more hM9 hD.below0 hs9
    have hs10 : N ≤ w10.heap.size := Nat.le_trans hs9 (hD.below0).size
    have E_10 := Lib.hid (E_9.out.below hD.below0)
    clear E_9
    have K_10 := Lib.hid (K_9.out.below hD.below0)
    clear K_9
    have T_10 := Lib.hid (T_9.out.below hD.below0)
    clear T_9
    have S_10 := Lib.hid (S_9.out.under hD.below0)
    clear S_9
    have R_10 := Lib.hid (R_9.out.under hD.below0)
    clear R_9
    have C_10 := Lib.hid (C_9.out.next hD.below0)
    clear C_9
    have U_10 := Lib.hid (U_9.out.below hD.below0)
    clear U_9
    have W_10 := Lib.hid (W_9.out.under hD.below0)
    clear W_9
    have Fr_10 := Lib.hid (Fr_9.out.under hD.below0)
    clear Fr_9
    have X_10 := Lib.hid (X_9.out.under hD.below0)
    clear X_9
    have Y_10 := Lib.hid (Y_9.out.under hD.below0)
    clear Y_9
    have Z_10 := Lib.hid (Z_9.out.under hD.below0)
    clear Z_9
    clear hM9 hs9
    clear hD
    go_wp2_with (first
      | (refine load_blk_g (w := w10) (by rfl) 41 _ rfl N 41 16 5 start (by rfl) S_10.out HST.out (by kernel_rfl) (by kernel_rfl) ?_)
      | (refine load_blk_g (w := w10) (by rfl) 41 _ rfl gf 41 16 5 start (by rfl) Fr_10.out HST.out (by kernel_rfl) (by kernel_rfl) ?_))
    go_ret
    exact ⟨rfl, by rw [HN.out]; exact hM10⟩
set_option maxHeartbeats 12800000 in
set_option maxRecDepth 100000 in
theorem ModeKeeps_p (vk : Value) (key start : List UInt8) (vt : Value) (text : List UInt8) (w : World) (hE : Et w) (hk : SlB w vk key) (hst : start.length = 16) (ht : SlB w vt text) (hb1 : key.length ≤ 100) (hb2 : text.length ≤ 200) (hz : ¬ text.length / 16 = 0) : Calls Tryd.prog 12 #[vk, .agg (Bs start), vt] w fun e w' => e = .returned (.bool true) ∧ Below w.heap.size w w' := by
  obtain ⟨N, hN⟩ : ∃ N, w.heap.size = N := ⟨_, rfl⟩
  have HN := Lib.hid hN
  obtain ⟨L, hL⟩ : ∃ L, text.length = L := ⟨_, rfl⟩
  obtain ⟨M, hM⟩ : ∃ M, key.length = M := ⟨_, rfl⟩
  have EL := Lib.hid hL
  have EM := Lib.hid hM
  have HK := Lib.hid hk
  have HT := Lib.hid ht
  have HST := Lib.hid hst
  obtain ⟨A, c, rfl, _, p1, p2, _⟩ := hk
  obtain ⟨B, d, rfl, _, q1, q2, _⟩ := ht
  rw [hM] at p1 HK
  rw [hL] at q1 HT
  rw [hM, hL]
  have hq := fun w => run_eql_bs (P := Tryd.prog) w (t := 41) (e := 5) start start (by kernel_rfl) (by kernel_rfl) (by kernel_rfl) (by kernel_rfl) hst hst
  simp only [beq_self_eq_true] at hq
  clear hL hM hst
  rw [EM.out] at hb1
  rw [EL.out] at hb2
  obtain ⟨m, em⟩ : ∃ m, L / 16 = m := ⟨_, rfl⟩
  have hT : (L : Int) / 16 * 16 = ((16 * m : Nat) : Int) := by omega
  have hT1 : 16 * m ≤ L := by omega
  have hT2 : 16 * m ≤ d := by omega
  have hT3 : ((16 * m : Nat) : Int) ≤ (d : Int) := by omega
  have hmx : m ≤ 100000 := by omega
  obtain ⟨T, eT⟩ : ∃ T, 16 * m = T := ⟨_, rfl⟩
  rw [eT] at hT hT1 hT2 hT3
  have ET := Lib.hid eT
  have hTm : T ≤ 1000000 := by omega
  have HPR := Lib.hid (show (kright key 16).length = 16 from kright_len _ _)
  have HTL := Lib.hid (show (text.take T).length = T by rw [List.length_take, EL.out]; omega)
  have hTp : 0 < T := by rw [EL.out, em] at hz; omega
  clear em eT hz
  have hM0 : Below N w w := Below.refl _ _
  have hs0 : N ≤ w.heap.size := by omega
  have E_0 := Lib.hid (hE)
  have K_0 := Lib.hid (HK.out)
  have T_0 := Lib.hid (HT.out)
  clear hE HK HT
  go_enter Tryd.func12, Tryd.ntmps12
  go_wp2_with ((with_reducible show wpList _ _ _ _ _ w); refine box_blk (w := w) rfl 41 _ rfl start rfl ?_; intro u0 hA0 hG0 hz0; rw [hN] at hA0 hz0 ⊢)
  have hL : Below w.heap.size w u0 := below_none (Below.refl _ _) (Nat.le_refl _) hG0
  clear hG0 hz0
  have hM1 : Below N w u0 := below_more hM0 hL hs0
  have hs1 : N ≤ u0.heap.size := Nat.le_trans hs0 (hL).size
  have E_1 := Lib.hid (E_0.out.below hL)
  clear E_0
  have K_1 := Lib.hid (K_0.out.below hL)
  clear K_0
  have T_1 := Lib.hid (T_0.out.below hL)
  clear T_0
  clear hM0 hs0
  clear hL
  have S_1 := Lib.hid (hA0)
  clear hA0
  go_wp2_with fail
  refine (awake06 u0 E_1.out).mono ?_
  rintro e w2 ⟨rfl, hL⟩
  have hM2 : Below N w w2 := below_more hM1 hL hs1
  have hs2 : N ≤ w2.heap.size := Nat.le_trans hs1 (hL).size
  have E_2 := Lib.hid (E_1.out.below hL)
  clear E_1
  have K_2 := Lib.hid (K_1.out.below hL)
  clear K_1
  have T_2 := Lib.hid (T_1.out.below hL)
  clear T_1
  have S_2 := Lib.hid (S_1.out.under hL)
  clear S_1
  clear hM1 hs1
  clear hL
  go_wp2_with fail
  refine (right06 1 16 (by decide) _ key w2 K_2.out).mono ?_
  rintro e w3 ⟨vR, rfl, hO, hL⟩
  obtain ⟨AR, cR, rfl, hcR⟩ := hO.slB.formc HPR.out
  have hM3 : Below N w w3 := below_more hM2 hL hs2
  have hs3 : N ≤ w3.heap.size := Nat.le_trans hs2 (hL).size
  have E_3 := Lib.hid (E_2.out.below hL)
  clear E_2
  have K_3 := Lib.hid (K_2.out.below hL)
  clear K_2
  have T_3 := Lib.hid (T_2.out.below hL)
  clear T_2
  have S_3 := Lib.hid (S_2.out.under hL)
  clear S_2
  clear hM2 hs2
  have R_3 := Lib.hid (hO)
  clear hL hO
  go_wp2_with fail
  refine (cipher06_1 _ (.slice none 0 0) (kright key 16) [] w3 (by rw [HPR.out]; decide) R_3.out.slB (slB_nil _) (by decide)).mono ?_
  rintro e w4 ⟨q, rfl, hC, hL⟩
  obtain ⟨gq, egq⟩ : ∃ gq, q = .pointer (some ⟨gq, 0, none⟩) := by obtain ⟨gq, _, _, e, _⟩ := hC; exact ⟨gq, e⟩
  subst egq
  have hM4 : Below N w w4 := below_more hM3 hL hs3
  have hs4 : N ≤ w4.heap.size := Nat.le_trans hs3 (hL).size
  have E_4 := Lib.hid (E_3.out.below hL)
  clear E_3
  have K_4 := Lib.hid (K_3.out.below hL)
  clear K_3
  have T_4 := Lib.hid (T_3.out.below hL)
  clear T_3
  have S_4 := Lib.hid (S_3.out.under hL)
  clear S_3
  have R_4 := Lib.hid (R_3.out.under hL)
  clear R_3
  clear hM3 hs3
  have C_4 := Lib.hid (hC)
  clear hL hC
  have U_4 := Lib.hid (T_4.out.take (n := T) (by rw [EL.out]; exact hT1))
  go_wp2_with (first | (at_builtin; (with_reducible show wpList _ _ _ _ _ (World.alloc w4 _)); (refine append_b hu_sl hu_u8 rfl _ _ rfl w4.heap.size _ [] (by rfl) (own_lit0 w4 _ (Nat.le_refl _)) _ (text.take T) (by rfl) (U_4.out.alloc _) (by rw [HTL.out]; simp; omega) (by simp) ?_); intro vW w5 hOW hGW; have hL : Below w4.heap.size w4 w5 := below_new ((Below.refl _ _).alloc (Nat.le_refl _) _) (by simp) hGW (Nat.le_refl _); have hO2 : Own w5 w4.heap.size vW (text.take T) := hOW; clear hGW hOW; have hM5 : Below N w w5 := below_more hM4 hL hs4; have hs5 : N ≤ w5.heap.size := Nat.le_trans hs4 (hL).size; have E_5 := Lib.hid (E_4.out.below hL); clear E_4; have K_5 := Lib.hid (K_4.out.below hL); clear K_4; have T_5 := Lib.hid (T_4.out.below hL); clear T_4; have S_5 := Lib.hid (S_4.out.under hL); clear S_4; have R_5 := Lib.hid (R_4.out.under hL); clear R_4; have C_5 := Lib.hid (C_4.out.next hL); clear C_4; have U_5 := Lib.hid (U_4.out.below hL); clear U_4; clear hM4 hs4; have W_5 := Lib.hid (hO2); clear hL hO2; obtain ⟨AW, cW, rfl, hcW⟩ := W_5.out.slB.formc HTL.out) | ((with_reducible show wpList _ _ _ _ _ w5); refine load_blk (w := w5) rfl 41 _ rfl N 41 16 5 start (by rfl) S_5.out HST.out (by kernel_rfl) (by kernel_rfl) ?_) | ((with_reducible show wpList _ _ _ _ _ w5); refine alloc_row (w := w5) rfl 41 rfl (.agg (Bs (List.replicate 16 0))) 16 (fun _ => by kernel_rfl) rfl ?_; intro u5 hR5 _ hG5 hz5) | ((with_reducible show wpList _ _ _ _ _ u5); refine store_blk (w := u5) rfl 41 _ _ rfl w5.heap.size 41 16 start (by rfl) (by rfl) hR5 HST.out (by kernel_rfl) ?_; intro w6 hB6 hG6 hz6; have hL : Below w5.heap.size w5 w6 := below_new (below_none (Below.refl _ _) (Nat.le_refl _) hG5) (by omega) hG6 (Nat.le_refl _); obtain ⟨gf, egf⟩ : ∃ g, w5.heap.size = g := ⟨_, rfl⟩; have hB7 := hB6; rw [egf] at hB7 ⊢; clear hR5 hG5 hz5 hB6 hG6 hz6 egf; have hM6 : Below N w w6 := below_more hM5 hL hs5; have hs6 : N ≤ w6.heap.size := Nat.le_trans hs5 (hL).size; have E_6 := Lib.hid (E_5.out.below hL); clear E_5; have K_6 := Lib.hid (K_5.out.below hL); clear K_5; have T_6 := Lib.hid (T_5.out.below hL); clear T_5; have S_6 := Lib.hid (S_5.out.under hL); clear S_5; have R_6 := Lib.hid (R_5.out.under hL); clear R_5; have C_6 := Lib.hid (C_5.out.next hL); clear C_5; have U_6 := Lib.hid (U_5.out.below hL); clear U_5; have W_6 := Lib.hid (W_5.out.under hL); clear W_5; clear hM5 hs5; have Fr_6 := Lib.hid (hB7); clear hL hB7))
  have SMv := Lib.hid hM6
  have SSv := Lib.hid hs6
  have SvE := Lib.hid E_6.out
  have SvK := Lib.hid K_6.out
  have SvT := Lib.hid T_6.out
  have SvS := Lib.hid S_6.out
  have SvR := Lib.hid R_6.out
  have SvC := Lib.hid C_6.out
  have SvU := Lib.hid U_6.out
  have SvW := Lib.hid W_6.out
  have SvFr := Lib.hid Fr_6.out
  have Mv_6 := Lib.hid (Below.refl w6.heap.size w6)
  have HSV := Lib.hid hs6
  refine (ChainedX _ _ _ w6.heap.size m 1 (kright key 16) start (text.take T) false w6 (by decide) C_6.out (Nat.le_refl _) (by rw [HPR.out]; decide) U_6.out (by rw [HTL.out]; exact ET.out.symm) hmx (by have h := S_6.out.slTo (n := 16) HST.out (by decide) (by decide); rw [List.take_of_length_le (by rw [HST.out]; decide)] at h; exact h) HST.out).mono ?_
  rintro e w7 ⟨vX, rfl, hO, hL⟩
  obtain ⟨lx, elx⟩ : ∃ l, cchain 1 (kright key 16) start (text.take T) false m = l := ⟨_, rfl⟩
  rw [elx] at hO
  have HLX := Lib.hid (show lx.length = T by rw [← elx]; exact (cchain_len 1 _ _ _ _ m (by decide)).trans ET.out)
  clear elx
  obtain ⟨gX, cX, egX, hgX, hgX2, _, _, _⟩ := hO.form (by rw [HLX.out]; exact hTp)
  rw [HLX.out] at egX
  subst egX
  have hM7 : Below N w w7 := below_more hM6 hL hs6
  have hs7 : N ≤ w7.heap.size := Nat.le_trans hs6 (hL).size
  have E_7 := Lib.hid (E_6.out.below hL)
  clear E_6
  have K_7 := Lib.hid (K_6.out.below hL)
  clear K_6
  have T_7 := Lib.hid (T_6.out.below hL)
  clear T_6
  have S_7 := Lib.hid (S_6.out.under hL)
  clear S_6
  have R_7 := Lib.hid (R_6.out.under hL)
  clear R_6
  have C_7 := Lib.hid (C_6.out.next hL)
  clear C_6
  have U_7 := Lib.hid (U_6.out.below hL)
  clear U_6
  have W_7 := Lib.hid (W_6.out.under hL)
  clear W_6
  have Fr_7 := Lib.hid (Fr_6.out.under hL)
  clear Fr_6
  have Mv_7 := Lib.hid (below_more Mv_6.out hL Mv_6.out.size)
  clear Mv_6
  clear hM6 hs6
  have X_7 := Lib.hid (hO)
  clear hL hO
  have BX_7 := Lib.hid (Below.refl w7.heap.size w7)
  go_wp2_with fail
  refine (AloneX _ _ w7.heap.size m 1 (kright key 16) (text.take T) true w7 (by decide) C_7.out (Nat.le_refl _) (by rw [HPR.out]; decide) U_7.out (by rw [HTL.out]; exact ET.out.symm) hmx).mono ?_
  rintro e w8 ⟨vY, rfl, hO, hL⟩
  obtain ⟨ly, ely⟩ : ∃ l, aloneTo 1 (kright key 16) (text.take T) true m = l := ⟨_, rfl⟩
  rw [ely] at hO
  have HLY := Lib.hid (show ly.length = T by rw [← ely]; exact (aloneTo_len 1 _ _ _ m (by decide)).trans ET.out)
  clear ely
  obtain ⟨gY, cY, egY, hgY, hgY2, _, _, _⟩ := hO.form (by rw [HLY.out]; exact hTp)
  rw [HLY.out] at egY
  subst egY
  have hXY : gX < gY := by have := hgY; omega
  have hM8 : Below N w w8 := below_more hM7 hL hs7
  have hs8 : N ≤ w8.heap.size := Nat.le_trans hs7 (hL).size
  have E_8 := Lib.hid (E_7.out.below hL)
  clear E_7
  have K_8 := Lib.hid (K_7.out.below hL)
  clear K_7
  have T_8 := Lib.hid (T_7.out.below hL)
  clear T_7
  have S_8 := Lib.hid (S_7.out.under hL)
  clear S_7
  have R_8 := Lib.hid (R_7.out.under hL)
  clear R_7
  have C_8 := Lib.hid (C_7.out.next hL)
  clear C_7
  have U_8 := Lib.hid (U_7.out.below hL)
  clear U_7
  have W_8 := Lib.hid (W_7.out.under hL)
  clear W_7
  have Fr_8 := Lib.hid (Fr_7.out.under hL)
  clear Fr_7
  have Mv_8 := Lib.hid (below_more Mv_7.out hL Mv_7.out.size)
  clear Mv_7
  have X_8 := Lib.hid (X_7.out.under hL)
  clear X_7
  have BX_8 := Lib.hid (below_more BX_7.out hL BX_7.out.size)
  clear BX_7
  clear hM7 hs7
  have Y_8 := Lib.hid (hO)
  clear hL hO
  go_wp2_with fail
  refine (Xor_own _ _ (text.take T) (text.take T) w8 U_8.out U_8.out rfl (by rw [HTL.out]; omega)).mono ?_
  rintro e w9 ⟨vZ, rfl, hO, hL⟩
  obtain ⟨lz, elz⟩ : ∃ l, pxor (text.take T) (text.take T) = l := ⟨_, rfl⟩
  rw [elz] at hO
  have HLZ := Lib.hid (show lz.length = T by rw [← elz, pxor_len]; exact HTL.out)
  clear elz
  obtain ⟨gZ, cZ, egZ, hgZ, hgZ2, _, _, _⟩ := hO.form (by rw [HLZ.out]; exact hTp)
  rw [HLZ.out] at egZ
  subst egZ
  have hYZ : gY < gZ := by have := hgZ; omega
  have hM9 : Below N w w9 := below_more hM8 hL hs8
  have hs9 : N ≤ w9.heap.size := Nat.le_trans hs8 (hL).size
  have E_9 := Lib.hid (E_8.out.below hL)
  clear E_8
  have K_9 := Lib.hid (K_8.out.below hL)
  clear K_8
  have T_9 := Lib.hid (T_8.out.below hL)
  clear T_8
  have S_9 := Lib.hid (S_8.out.under hL)
  clear S_8
  have R_9 := Lib.hid (R_8.out.under hL)
  clear R_8
  have C_9 := Lib.hid (C_8.out.next hL)
  clear C_8
  have U_9 := Lib.hid (U_8.out.below hL)
  clear U_8
  have W_9 := Lib.hid (W_8.out.under hL)
  clear W_8
  have Fr_9 := Lib.hid (Fr_8.out.under hL)
  clear Fr_8
  have Mv_9 := Lib.hid (below_more Mv_8.out hL Mv_8.out.size)
  clear Mv_8
  have X_9 := Lib.hid (X_8.out.under hL)
  clear X_8
  have BX_9 := Lib.hid (below_more BX_8.out hL BX_8.out.size)
  clear BX_8
  have Y_9 := Lib.hid (Y_8.out.under hL)
  clear Y_8
  clear hM8 hs8
  have Z_9 := Lib.hid (hO)
  clear hL hO
  go_wp2_with fail
  have HXx := Lib.hid X_9.out
  have HYx := Lib.hid Y_9.out
  have HZx := Lib.hid Z_9.out
  have HMx := Lib.hid Mv_9.out
  have hV0X : w6.heap.size ≤ gX := hgX
  have hV0Y : w6.heap.size ≤ gY := by omega
  have hV0Z : w6.heap.size ≤ gZ := by omega
  go_loopw [18] (fun i wr => ∃ (k : Nat) (xs ys zs : List UInt8), k ≤ T ∧ i = .int .i64 k ∧ Hid (xs.length = T) ∧ Hid (ys.length = T) ∧ Hid (zs.length = T) ∧ Own wr w6.heap.size (.slice (some ⟨gX, 0, none⟩) T cX) xs ∧ Own wr w7.heap.size (.slice (some ⟨gY, 0, none⟩) T cY) ys ∧ Own wr w8.heap.size (.slice (some ⟨gZ, 0, none⟩) T cZ) zs ∧ Below w6.heap.size w6 wr) (fun i _ => T - (intOf i).toNat)
  case atStart => exact ⟨0, lx, ly, lz, by omega, rfl, HLX, HLY, HLZ, HXx.out, HYx.out, HZx.out, HMx.out⟩
  case round =>
    clear HXx HYx HZx HMx
    obtain ⟨k, xs, ys, zs, hkT, rfl, hlx, hly, hlz, hX, hY, hZ, hW⟩ := hrel
    by_cases hlt : k < T
    · have HLT := Lib.hid hlt
      have cx := hX.cell k (by rw [hlx.out]; exact hlt)
      obtain ⟨x0, ex0⟩ : ∃ x, g8 xs k = x := ⟨_, rfl⟩
      obtain ⟨y0, ey0⟩ : ∃ x, g8 ys k = x := ⟨_, rfl⟩
      obtain ⟨z0, ez0⟩ : ∃ x, g8 zs k = x := ⟨_, rfl⟩
      have e1 : Go.bits .xor .u8 (bv x0) 255 = bv (x0 ^^^ 255) := bv_xor _ 0xff
      have e2 : Go.bits .xor .u8 (bv y0) 255 = bv (y0 ^^^ 255) := bv_xor _ 0xff
      have e3 : Go.bits .xor .u8 (bv z0) 255 = bv (z0 ^^^ 255) := bv_xor _ 0xff
      rw [ex0] at cx
      have HX := Lib.hid hX
      have HY := Lib.hid hY
      have HZ := Lib.hid hZ
      have HW := Lib.hid hW
      have EY0 := Lib.hid ey0
      have EZ0 := Lib.hid ez0
      clear hX hY hZ hW ex0 ey0 ez0
      go_wp2_with (first
        | ((with_reducible show wpList _ _ _ _ _ wr); refine store_o (w := wr) rfl 5 _ _ rfl w6.heap.size gX k T cX xs (x0 ^^^ 255) (by rfl) _ (by rfl) rfl HX.out (by rw [hlx.out]; exact HLT.out) (by kernel_rfl) ?_; intro u7 hX7 hG7 hz7; have hY7 := HY.out.kept hG7 (.inr (by simp [Value.ownBlock]; omega)); have hZ7 := HZ.out.kept hG7 (.inr (by simp [Value.ownBlock]; omega)); have hW7 : Below w6.heap.size w6 u7 := (below_new HW.out HW.out.size hG7 hV0X); have cy := hY7.cell k (by rw [hly.out]; exact HLT.out); rw [EY0.out] at cy; have HX7 := Lib.hid hX7; have HY7 := Lib.hid hY7; have HZ7 := Lib.hid hZ7; have HW7 := Lib.hid hW7; clear hX7 hG7 hY7 hZ7 hW7 hz7 cx)
        | ((with_reducible show wpList _ _ _ _ _ u7); refine store_o (w := u7) rfl 5 _ _ rfl w7.heap.size gY k T cY ys (y0 ^^^ 255) (by rfl) _ (by rfl) rfl HY7.out (by rw [hly.out]; exact HLT.out) (by kernel_rfl) ?_; intro u8 hY8 hG8 hz8; have hX8 := HX7.out.kept hG8 (.inr (by simp [Value.ownBlock]; omega)); have hZ8 := HZ7.out.kept hG8 (.inr (by simp [Value.ownBlock]; omega)); have hW8 : Below w6.heap.size w6 u8 := (below_new HW7.out HW7.out.size hG8 hV0Y); have cz := hZ8.cell k (by rw [hlz.out]; exact HLT.out); rw [EZ0.out] at cz; have HX8 := Lib.hid hX8; have HY8 := Lib.hid hY8; have HZ8 := Lib.hid hZ8; have HW8 := Lib.hid hW8; clear hX8 hG8 hY8 hZ8 hW8 hz8 cy)
        | ((with_reducible show wpList _ _ _ _ _ u8); refine store_o (w := u8) rfl 5 _ _ rfl w8.heap.size gZ k T cZ zs (z0 ^^^ 255) (by rfl) _ (by rfl) rfl HZ8.out (by rw [hlz.out]; exact HLT.out) (by kernel_rfl) ?_; intro u9 hZ9 hG9 hz9; have HX9 := Lib.hid (HX8.out.kept hG9 (.inr (by simp [Value.ownBlock]; omega))); have HY9 := Lib.hid (HY8.out.kept hG9 (.inr (by simp [Value.ownBlock]; omega))); have HW9 := Lib.hid (show Below w6.heap.size w6 u9 from below_new HW8.out HW8.out.size hG9 hV0Z); have HZ9 := Lib.hid hZ9; clear hZ9 hG9 hz9 cz))
      go_roundw
      case rel =>
        exact ⟨k + 1, _, _, _, HLT.out, by go_num, Lib.hid (by rw [List.length_set]; exact hlx.out), Lib.hid (by rw [List.length_set]; exact hly.out), Lib.hid (by rw [List.length_set]; exact hlz.out), HX9.out, HY9.out, HZ9.out, HW9.out⟩
      case measure => have := HLT.out; simp [intOf]; omega
    have HW := Lib.hid hW
    clear hX hY hZ hW hlx hly hlz
    have hM10 : Below N w wr := below_more SMv.out HW.out SSv.out
    have hs10 : N ≤ wr.heap.size := Nat.le_trans SSv.out (HW.out).size
    have E_10 := Lib.hid (SvE.out.below HW.out)
    have K_10 := Lib.hid (SvK.out.below HW.out)
    have T_10 := Lib.hid (SvT.out.below HW.out)
    have S_10 := Lib.hid (SvS.out.under HW.out)
    have R_10 := Lib.hid (SvR.out.under HW.out)
    have C_10 := Lib.hid (SvC.out.next HW.out)
    have U_10 := Lib.hid (SvU.out.below HW.out)
    have W_10 := Lib.hid (SvW.out.under HW.out)
    have Fr_10 := Lib.hid (SvFr.out.under HW.out)
    clear HW
    go_wp2_with fail
    refine (Same_any _ _ (text.take T) (text.take T) wr U_10.out W_10.out.slB (by rw [HTL.out]; omega)).mono ?_
    rintro e w11 ⟨rfl, hD⟩
    rw [beq_self_eq_true]
    have hM11 : Below N w w11 := below_more hM10 hD.below0 hs10
    have hs11 : N ≤ w11.heap.size := Nat.le_trans hs10 (hD.below0).size
    have E_11 := Lib.hid (E_10.out.below hD.below0)
    clear E_10
    have K_11 := Lib.hid (K_10.out.below hD.below0)
    clear K_10
    have T_11 := Lib.hid (T_10.out.below hD.below0)
    clear T_10
    have S_11 := Lib.hid (S_10.out.under hD.below0)
    clear S_10
    have R_11 := Lib.hid (R_10.out.under hD.below0)
    clear R_10
    have C_11 := Lib.hid (C_10.out.next hD.below0)
    clear C_10
    have U_11 := Lib.hid (U_10.out.below hD.below0)
    clear U_10
    have W_11 := Lib.hid (W_10.out.under hD.below0)
    clear W_10
    have Fr_11 := Lib.hid (Fr_10.out.under hD.below0)
    clear Fr_10
    clear hM10 hs10
    clear hD
    go_wp2_with (first
      | (refine load_blk_g (w := w11) (by rfl) 41 _ rfl N 41 16 5 start (by rfl) S_11.out HST.out (by kernel_rfl) (by kernel_rfl) ?_)
      | (refine load_blk_g (w := w11) (by rfl) 41 _ rfl gf 41 16 5 start (by rfl) Fr_11.out HST.out (by kernel_rfl) (by kernel_rfl) ?_))
    go_ret
    exact ⟨rfl, by rw [HN.out]; exact hM11⟩
theorem ModeKeeps_any (vk : Value) (key start : List UInt8) (vt : Value) (text : List UInt8) (w : World) (hE : Et w) (hk : SlB w vk key) (hst : start.length = 16) (ht : SlB w vt text) : Calls Tryd.prog 12 #[vk, .agg (Bs start), vt] w fun e w' => e = .returned (.bool true) ∧ Below w.heap.size w w' := by
  by_cases h1 : key.length ≤ 100
  · by_cases h2 : text.length ≤ 200
    · by_cases hz : text.length / 16 = 0
      · exact ModeKeeps_z vk key start vt text w hE hk hst ht h1 h2 hz
      · exact ModeKeeps_p vk key start vt text w hE hk hst ht h1 h2 hz
    · exact ModeKeeps_ft vk key start vt text w hE hk hst ht h1 h2
  · exact ModeKeeps_fk vk key start vt text w hE hk hst ht h1
end Go.Proofs.YtjbdhnmkeaogcaaDoor
set_option linter.unusedVariables false
set_option linter.unusedSimpArgs false
namespace Lk
open Go Go.RowKit
/-- a slice of whole numbers as it is read -/
def IsRow (k : IntKind) (w : World) (a : Option Addr) (len cap : Nat) (zs : List Int) : Prop :=
  (a = none ∧ len = 0 ∧ cap = 0 ∧ zs = []) ∨
  ∃ x, a = some x ∧ len ≤ cap ∧ cap ≤ maxLen ∧ zs.length = cap ∧ (∀ i, i < zs.length → w.cell? (x.add i) = some (.int k (zs.getD i 0))) ∧ ∀ n ∈ zs, (Lit.int k n).wf = true
theorem u8_of_wf {n : Int} (h : (Lit.int .u8 n).wf = true) : n = bv (UInt8.ofNat n.toNat) := by
  obtain ⟨a, rfl⟩ := open_u8 h
  unfold bv
  simp
theorem slB_of_row {w : World} {a : Option Addr} {len cap : Nat} {zs : List Int} (h : IsRow .u8 w a len cap zs) : ∃ l : List UInt8, l.length = len ∧ SlB w (.slice a len cap) l := by
  rcases h with ⟨rfl, rfl, rfl, rfl⟩ | ⟨x, rfl, h1, h2, h3, h4, h5⟩
  · exact ⟨[], rfl, none, 0, rfl, fun _ => rfl, Nat.le_refl _, Nat.zero_le _, fun h => by omega⟩
  · have hl : ((zs.take len).map fun z => UInt8.ofNat z.toNat).length = len := by simp; omega
    refine ⟨(zs.take len).map fun z => UInt8.ofNat z.toNat, hl, some x, cap, by rw [hl], fun h => (by cases h), by rw [hl]; exact h1, h2, fun hc => ?_⟩
    have hx : x.spot = none := by
      have := h4 0 (by omega)
      have e : x.add 0 = x := by simp [Addr.add]
      rw [e] at this
      unfold World.cell? at this
      split at this
      · split at this
        · cases this
        · rename_i hs; simpa using hs
      · cases this
    obtain ⟨g, o, s⟩ := x
    cases hx
    refine ⟨g, o, rfl, fun k hk => ?_⟩
    rw [hl] at hk
    have hc := h4 k (by omega)
    have ea : (⟨g, o, none⟩ : Addr).add k = ⟨g, o + k, none⟩ := by unfold Addr.add; split <;> simp_all
    rw [ea] at hc
    rw [hc]
    have hm : zs.getD k 0 ∈ zs := by
      have : k < zs.length := by omega
      simp [this]
    have := u8_of_wf (h5 _ hm)
    have e : g8 ((zs.take len).map fun z => UInt8.ofNat z.toNat) k = UInt8.ofNat (zs.getD k 0).toNat := by
      unfold g8
      have : k < zs.length := by omega
      simp [List.getElem?_take, hk, this]
    rw [e, ← this]
section
variable {P : Program} {H : Type} {enc : TypeId × Value → H}
theorem open_slice_u8 {t e : TypeId} {W : World} {a : Option Addr} {len cap : Nat} {d : DataW H} {ps : List MemPlace} (ht : P.underlying t = some (.slice e)) (he : P.underlying e = some (.int .u8)) (hc : P.cellsOf e = 1)
    (h : DataW.Trod enc P W 0 (fun _ => true) true t (.slice a len cap) d ps) : ∃ l : List UInt8, l.length = len ∧ SlB W (.slice a len cap) l := by
  obtain ⟨zs, hz⟩ : ∃ zs, IsRow .u8 W a len cap zs := by
    obtain ⟨fuel, hf⟩ := h
    rcases Go.ChangeShapes.open_ints ht he hc hf with ⟨hcs, _⟩ | ⟨x, l, c, zs, hcs, _, hl, hm, hz, _, hcell, hwz⟩
    · simp [Value.cells] at hcs
      obtain ⟨rfl, rfl, rfl⟩ := hcs
      exact ⟨[], .inl ⟨rfl, rfl, rfl, rfl⟩⟩
    · simp [Value.cells] at hcs
      obtain ⟨rfl, rfl, rfl⟩ := hcs
      exact ⟨zs, .inr ⟨_, rfl, hl, hm, by simpa using hz, hcell, hwz⟩⟩
  exact slB_of_row hz
/-- an array of bytes -/
theorem open_arr_u8 {t e n : Nat} {W : World} {r : Reach} {base : Nat} {v : Value} (ht : P.underlying t = some (.array n e)) (he : P.underlying e = some (.int .u8)) (hc : P.cellsOf t = n) (hct : P.cellTypes P.depth t = some (List.replicate n e)) (hn : 0 < n)
    (h : Value.okWide P W r base t v) : ∃ l : List UInt8, l.length = n ∧ v = .agg (Bs l) := by
  simp only [Value.okWide, ht] at h
  obtain ⟨cs, rfl, hsz, ts, hts, _, hcell⟩ := h
  rw [hct] at hts
  cases hts
  rw [hc] at hsz
  refine ⟨cs.toList.map fun v => match v with | .int _ z => UInt8.ofNat z.toNat | _ => 0, by simp [hsz], ?_⟩
  congr 1
  apply Array.ext
  · simp [Bs]
  · intro i h1 h2
    obtain ⟨u, hu, hok⟩ := hcell i cs[i] (by simp [h1])
    have hue : u = e := by
      rw [List.getElem?_replicate] at hu
      split at hu
      · cases hu; rfl
      · cases hu
    subst hue
    simp only [Cell.okWide, he] at hok
    simp only [Bs, List.map_map, List.getElem_toArray, List.getElem_map, Function.comp_apply, Array.getElem_toList]
    cases hv : cs[i] with
    | int k z =>
      rw [hv] at hok
      simp only [Cell.ok, he] at hok
      obtain ⟨rfl, hw⟩ := hok
      have hw' : (Lit.int .u8 z).wf = true := by
        unfold Lit.wf
        rw [Bool.and_eq_true]
        exact ⟨decide_eq_true hw.1, decide_eq_true hw.2⟩
      simp only [← u8_of_wf hw']
    | _ => rw [hv] at hok; simp [Cell.ok, he] at hok
end
end Lk
set_option linter.unusedVariables false
namespace Go.Proofs.YtjbdhnmkeaogcaaDoor
open Go.ChangeShapes Go.WideShapes Go.RowKit
theorem ownKnobNone : ownKnob Tryd.prog.godebug = none := by kernel_rfl
theorem laidOutAll : laidOutB Tryd.prog = true := by kernel_rfl
theorem fct_laid : laidOutB Tryd.checked.prog = true := by kernel_rfl
theorem fct_maps : mapsRowed Tryd.checked.prog = true := by kernel_rfl
theorem fct_main : Tryd.pinned.checked.prog.mainIs = some (true, "8650a698aaa6e7940681561f98863e190d5ec889b7f6ab40edacde75e00aa3ea".toList) := by kernel_rfl
theorem fct_looks : true = Tryd.pinned.checked.prog.looks [] := by kernel_rfl
def laidList : List (String × DataW Unit) := [("errors.errorType", Rows.laid_errors_errorType)]
theorem et_g : Tryd.prog.globalNamed "errors.errorType" = some 0 := by kernel_rfl
theorem et_rt : (Tryd.prog.cutTypes.find? (·.1 == "internal/reflectlite.rtype")).map (·.2) = some 171 := by kernel_rfl
theorem et_row : ((List.range 242).filter fun t => Tryd.prog.rowNamed t [101, 114, 114, 111, 114]) = [29] := by kernel_rfl
theorem et_size : Tryd.prog.types.size = 242 := by kernel_rfl
theorem handle_of_laid {W : World} (h : laidMetH Tryd.prog laidList W) : Et W := by
  have h' : laidMet Tryd.prog [] W ∧ handlesMet Tryd.prog laidList W := h
  obtain ⟨name, u, ty, e1, e2, e3, e4, e5⟩ := h'.2 _ (List.mem_singleton.2 rfl)
  have en : name = [101, 114, 114, 111, 114] := (Option.some.inj e1).symm
  subst en
  obtain rfl := Option.some.inj (et_rt.symm.trans e2)
  have hm : ty ∈ (List.range 242).filter fun t => Tryd.prog.rowNamed t [101, 114, 114, 111, 114] := List.mem_filter.2 ⟨List.mem_range.2 (by rw [← et_size]; exact e3), e4⟩
  rw [et_row] at hm
  obtain rfl := List.mem_singleton.1 hm
  have hh : typeHandle Tryd.prog 29 = .pointer (some ⟨1, 29, none⟩) := by kernel_rfl
  rw [hh] at e5
  have := World.var?_cell et_g e5 0
  unfold Et hnd
  simpa using this
noncomputable def laidWorld (os : Os) : World :=
  let w0 := World.holding Tryd.prog os ⟨#[], #[], []⟩
  { w0 with heap := w0.heap.modify 0 fun
      | .cells _ t frozen => .cells #[.iface 171 (.agg #[.pointer (some ⟨1, 29, none⟩)])] t frozen
      | o => o }
theorem laidWorld_met (os : Os) (args : Array Value) : laidMetH Tryd.prog laidList ((laidWorld os).forCall (fun _ _ => 0) ⟨#[], args, []⟩).memory :=
  laidMetH_of_parts (laidMet_nil _ _) (by kernel_rfl)
end Go.Proofs.YtjbdhnmkeaogcaaDoor
namespace Go.Proofs.YtjbdhnmkeaogcaaDoor.modeKeeps
open Go.ChangeShapes Go.WideShapes Go.ChangeAt Go.RowKit Lk
open Go.ChangeMaps (open_string shut_string)
set_option linter.unusedVariables false
set_option linter.unusedSimpArgs false
set_option maxRecDepth 100000 in
theorem lifted (os : Os) (started : os.Started) (H : Type) (enc : TypeId × Value → H) :
    ReturnsInHanded {} Tryd.checked os 12 .any (fun w args => (Rows.modeKeepsSpec.pre enc Tryd.prog Tryd.f12 [] false w args ∧ laidMetH Tryd.prog laidList w) ∧ sizedMet enc Tryd.prog Tryd.f12 (OpenSpec.ofChange Rows.modeKeepsSpec) false w args)
      (Rows.modeKeepsSpec.post enc Tryd.prog Tryd.f12 false true false false) := by
  refine returnsInHanded_of_change_and (C := Tryd.checked) (X := fun w _ => laidMetH Tryd.prog laidList w) (fun _ _ _ hh h => h.of_heap hh) ownKnobNone started (by kernel_rfl) Tryd.func12
    (ChangeSpec.witness_at (enc := enc) (C := Tryd.checked) (os := os) (X := fun w _ => laidMetH Tryd.prog laidList w) false (laidWorld os) #[.slice none 0 0, .agg #[.int .u8 0, .int .u8 0, .int .u8 0, .int .u8 0, .int .u8 0, .int .u8 0, .int .u8 0, .int .u8 0, .int .u8 0, .int .u8 0, .int .u8 0, .int .u8 0, .int .u8 0, .int .u8 0, .int .u8 0, .int .u8 0], .slice none 0 0] 8 rfl (by kernel_rfl) (by kernel_rfl) (by kernel_rfl) (by kernel_rfl) (by kernel_rfl) (laidWorld_met os _)) ?_
  intro W base args ds gs before hval0 hW _ _ hLd _
  have hval : ∀ (j : Nat) t v, Tryd.f12.params[j]? = some t → args[j]? = some v → Value.okWide Tryd.prog W .any base t v := hval0
  have hW' := hW
  obtain ⟨p, q, hA0, hV, rfl, hfz, hnd⟩ := hW
  have hA : DataW.TrodAll enc Tryd.prog W 0 (fun _ => true) true Tryd.f12.params.toList args.toList ds p := hA0
  have hEt : Et W := handle_of_laid hLd
  rw [Tryd.params12] at hA hval
  obtain ⟨v0, vs0, d0, ds0, p0, q0, hargs, rfl, rfl, h0, r0⟩ := trodAll_cons hA
  obtain ⟨v1, vs1, d1, ds1, p1, q1, rfl, rfl, rfl, h1, r1⟩ := trodAll_cons r0
  obtain ⟨v2, vs2, d2, ds2, p2, q2, rfl, rfl, rfl, h2, r2⟩ := trodAll_cons r1
  obtain ⟨rfl, rfl, rfl⟩ := trodAll_nil r2
  obtain rfl : args = #[v0, v1, v2] := by cases args; simp_all
  obtain ⟨rfl, rfl⟩ := trodVars_none hV
  have k0 := h0
  have lt0 : ∀ x ∈ p0, x.block < W.heap.size := by obtain ⟨m, hm⟩ := k0; exact DataW.trod_lt m _ _ _ hm
  obtain ⟨a0, len0, cap0, rfl⟩ := okWide_slice Tryd.underlying22 (hval 0 22 v0 rfl rfl)
  obtain ⟨l0, hl0, s0⟩ := open_slice_u8 Tryd.underlying22 Tryd.underlying5 (by kernel_rfl) h0
  have k1 := h1
  have lt1 : ∀ x ∈ p1, x.block < W.heap.size := by obtain ⟨m, hm⟩ := k1; exact DataW.trod_lt m _ _ _ hm
  obtain ⟨l1, hl1, rfl⟩ := open_arr_u8 Tryd.underlying41 Tryd.underlying5 (by kernel_rfl) (by kernel_rfl) (by decide) (hval 1 41 v1 rfl rfl)
  have k2 := h2
  have lt2 : ∀ x ∈ p2, x.block < W.heap.size := by obtain ⟨m, hm⟩ := k2; exact DataW.trod_lt m _ _ _ hm
  obtain ⟨a2, len2, cap2, rfl⟩ := okWide_slice Tryd.underlying22 (hval 2 22 v2 rfl rfl)
  obtain ⟨l2, hl2, s2⟩ := open_slice_u8 Tryd.underlying22 Tryd.underlying5 (by kernel_rfl) h2
  clear hA0 hval0
  refine (ModeKeeps_any _ l0 l1 _ l2 W hEt s0 hl1 s2).mono fun e W' ⟨he, bel⟩ => ?_
  subst he
  exact ⟨_, rfl, _, _, _, [], _, [], hW', trodAll_mk1 (shut_bool Tryd.underlying4 _), (trodAll_cons_mk (Below.trod laidOutAll (by kernel_rfl) (of_decide_eq_true (by kernel_rfl)) k0 bel lt0) (trodAll_cons_mk (Below.trod laidOutAll (by kernel_rfl) (of_decide_eq_true (by kernel_rfl)) k1 bel lt1) (trodAll_cons_mk (Below.trod laidOutAll (by kernel_rfl) (of_decide_eq_true (by kernel_rfl)) k2 bel lt2) trodAll_mk0))), rfl, bel.frame _, fun h => by cases h⟩
set_option maxHeartbeats 8000000 in
theorem closed : joinedFacts Tryd.checked.prog 12 Tryd.f12 Rows.modeKeepsSpec Rows.modeKeepsRow = true := by
  unfold joinedFacts
  simp only [Bool.and_eq_true]
  repeat' apply And.intro
  all_goals first | with_reducible exact fct_laid | with_reducible exact fct_maps | as_aux_lemma => kernel_rfl
theorem named_f : Tryd.prog.funcNamed "lockbox/lockboxlaw06.ModeKeeps" = some 12 := by kernel_rfl
theorem over : Rows.ModeKeepsSaid :=
  OpenClaim.holds_of_wide 12 Tryd.f12 rfl rfl rfl rfl rfl rfl rfl ⟨rfl, rfl, rfl, rfl, rfl⟩ rfl rfl rfl rfl rfl named_f Tryd.func12 closed
    (of_decide_eq_true (by kernel_rfl)) (by unfold Func.isWrapper; first | (rw [if_pos (by decide +kernel)]; kernel_rfl) | (rw [if_neg (by decide +kernel)]; exact ⟨rfl, rfl⟩))
    (fun os started H enc _ => lifted os started H enc)
theorem params_ok (j : Nat) (t : TypeId) (ht : Tryd.f12.params[j]? = some t) : Tryd.prog.wantsStandIn t = false := by
  rw [Tryd.params12] at ht
  have hm : t ∈ #[22, 41, 22] := Array.mem_of_getElem? ht
  simp only [List.mem_toArray, List.mem_cons, List.not_mem_nil, or_false] at hm
  rcases hm with rfl | rfl | rfl
  · show Tryd.prog.wantsStandIn 22 = false
    kernel_rfl
  · show Tryd.prog.wantsStandIn 41 = false
    kernel_rfl
  · show Tryd.prog.wantsStandIn 22 = false
    kernel_rfl
theorem wf_text : Rows.modeKeepsRow.wfByText (OpenSpec.ofChange Rows.modeKeepsSpec) = true := by kernel_rfl
theorem goes_no : false = Rows.modeKeepsRow.goesBy Tryd.pinned.checked.prog := by kernel_rfl
theorem card_holds : Rows.ModeKeepsCardSaid :=
  Claim7.holds_tied_plain_at .later [] [.handle] true (true, "8650a698aaa6e7940681561f98863e190d5ec889b7f6ab40edacde75e00aa3ea") true
    over (fun _ h => by cases h) wf_text (fun _ h => by cases h) modeKeeps_row_tie rfl ⟨rfl, rfl⟩ fct_main rfl
    (fun f fn hf hfn => by
      obtain rfl : f = 12 := Option.some.inj (named_f.symm.trans hf) |>.symm
      obtain rfl : fn = Tryd.f12 := (Option.some.inj (Tryd.func12.symm.trans hfn)).symm
      exact ⟨fct_looks, fun j t ht => params_ok j t ht⟩)
    goes_no
#print axioms card_holds
end Go.Proofs.YtjbdhnmkeaogcaaDoor.modeKeeps
namespace Go.Proofs.YtjbdhnmkeaogcaaDoor
/-- The card, under a short name, for the claim. -/
theorem modeKeeps_holds : Rows.ModeKeepsCardSaid := modeKeeps.card_holds
end Go.Proofs.YtjbdhnmkeaogcaaDoor
