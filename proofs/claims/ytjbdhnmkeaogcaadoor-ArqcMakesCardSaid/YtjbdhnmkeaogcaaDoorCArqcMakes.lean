/- For every key, every data and every code the law ArqcMakes of the layer of cryptograms returns true (the maker's answer is the reference's, the check says yes to the right code and to no other one), and its arguments read as they did; the variable errors.errorType starts as the program lays it. -/
import Derived.Test.YtjbdhnmkeaogcaaDoorKA0
import Derived.Test.YtjbdhnmkeaogcaaDoorKB7
import Derived.Test.YtjbdhnmkeaogcaaDoorKR0
import Derived.Test.YtjbdhnmkeaogcaaDoorKB0
import Derived.WalkKit
import Derived.ProofKit
import Derived.OpenShut
import Derived.ShutString
import Derived.ChangeOld
import Derived.SizedLaws
import Derived.ChangeSlices
import Derived.Test.YtjbdhnmkeaogcaaDoorRows
import Derived.Test.YtjbdhnmkeaogcaaDoorKB6
import Derived.ChangeSame
import Derived.ChangeVars
import Derived.JoinedOf
import Derived.RowKit
import Derived.RowKitTokens
import Derived.LaidLaws
import Derived.LaidHandle
import Derived.Stop.Joined
import Derived.SevenTiedAt
import Derived.Test.YtjbdhnmkeaogcaaDoorCards
import Derived.Test.YtjbdhnmkeaogcaaDoorTie
set_option linter.unusedVariables false
set_option linter.unusedSimpArgs false
namespace Go.Proofs.YtjbdhnmkeaogcaaDoor
open Go.RowKit Lk
set_option maxRecDepth 100000 in
theorem Make_bad (vk vt : Value) (key text : List UInt8) (w : World) (hk : SlB w vk key) (hs : SlB w vt text) (hl1 : key.length ≤ 1000) (hl2 : text.length ≤ 1000) (h : key.length ≠ 16 ∨ 255 < text.length) :
    Calls Tryd.prog 48 #[vk, vt] w fun e w' => e = .returned (.tuple #[.slice none 0 0, .iface 106 (.int .i64 2)]) ∧ w' = w := by
  obtain ⟨A, c, rfl, _⟩ := hk
  obtain ⟨B, d, rfl, _⟩ := hs
  obtain ⟨K, eK⟩ : ∃ K, key.length = K := ⟨_, rfl⟩
  obtain ⟨L, eL⟩ : ∃ L, text.length = L := ⟨_, rfl⟩
  rw [eK] at h hl1 ⊢
  rw [eL] at h hl2 ⊢
  clear eK eL
  by_cases hk : K = 16
  · have f1 : ((K : Int) != 16) = false := by simp; omega
    have f2 : (255 : Int) < (L : Int) := by omega
    clear h hk
    go_enter Tryd.func48, Tryd.ntmps48
    go_wp2
    go_ret2
    exact ⟨rfl, rfl⟩
  · have f1 : ((K : Int) != 16) = true := by simp; omega
    clear h hk
    go_enter Tryd.func48, Tryd.ntmps48
    go_wp2
    go_ret2
    exact ⟨rfl, rfl⟩
set_option maxRecDepth 100000 in
theorem Verify_bad (vk vt vc : Value) (key text code : List UInt8) (w : World) (hk : SlB w vk key) (hs : SlB w vt text) (hc : SlB w vc code) (hl1 : key.length ≤ 1000) (hl2 : text.length ≤ 1000) (h : key.length ≠ 16 ∨ 255 < text.length) :
    Calls Tryd.prog 49 #[vk, vt, vc] w fun e w' => e = .returned (.iface 106 (.int .i64 2)) ∧ w' = w := by
  have HM := Lib.hid (Make_bad vk vt key text w hk hs hl1 hl2 h)
  obtain ⟨A, c, rfl, _⟩ := hk
  obtain ⟨B, d, rfl, _⟩ := hs
  obtain ⟨C, e9, rfl, _⟩ := hc
  clear h hl1 hl2
  go_enter Tryd.func49, Tryd.ntmps49
  go_wp2_with (go_at_call 48; refine HM.out.mono ?_; rintro e w ⟨rfl, rfl⟩)
  go_ret
  exact ⟨rfl, rfl⟩
set_option maxHeartbeats 6400000 in
set_option maxRecDepth 100000 in
theorem AM_fk (vk : Value) (key : List UInt8) (vd : Value) (data : List UInt8) (vc : Value) (code : List UInt8) (w : World) (hE : Et w) (hk : SlB w vk key) (hd : SlB w vd data) (hc : SlB w vc code) (h1 : ¬ key.length ≤ 100) : Calls Tryd.prog 14 #[vk, vd, vc] w fun e w' => e = .returned (.bool true) ∧ Below w.heap.size w w' := by
  obtain ⟨N, hN⟩ : ∃ N, w.heap.size = N := ⟨_, rfl⟩
  have HN := Lib.hid hN
  have HK := Lib.hid hk
  have HD := Lib.hid hd
  have HC := Lib.hid hc
  obtain ⟨K, eK⟩ : ∃ K, key.length = K := ⟨_, rfl⟩
  obtain ⟨L, eL⟩ : ∃ L, data.length = L := ⟨_, rfl⟩
  obtain ⟨M, eM⟩ : ∃ M, code.length = M := ⟨_, rfl⟩
  obtain ⟨A, c, rfl, _, p1, p2, _⟩ := hk
  obtain ⟨B, d, rfl, _, q1, q2, _⟩ := hd
  obtain ⟨C, e9, rfl, _, r1, r2, _⟩ := hc
  have EK := Lib.hid eK
  have EL := Lib.hid eL
  have EM := Lib.hid eM
  rw [eK] at p1 HK
  rw [eL] at q1 HD
  rw [eM] at r1 HC
  rw [eK, eL, eM]
  rw [eK] at h1
  clear eK eL eM
  have hM0 : Below N w w := Below.refl _ _
  have hs0 : N ≤ w.heap.size := by omega
  have E_0 := Lib.hid (hE)
  have K_0 := Lib.hid (HK.out)
  have D_0 := Lib.hid (HD.out)
  have C_0 := Lib.hid (HC.out)
  clear hE HK HD HC
  go_enter Tryd.func14, Tryd.ntmps14
  go_wp2_with fail
  refine (awake19 w).mono ?_
  rintro e w1 ⟨rfl, hL⟩
  have hM1 : Below N w w1 := below_more hM0 hL hs0
  have hs1 : N ≤ w1.heap.size := Nat.le_trans hs0 (hL).size
  have E_1 := Lib.hid (E_0.out.below hL)
  clear E_0
  have K_1 := Lib.hid (K_0.out.below hL)
  clear K_0
  have D_1 := Lib.hid (D_0.out.below hL)
  clear D_0
  have C_1 := Lib.hid (C_0.out.below hL)
  clear C_0
  clear hM0 hs0
  clear hL
  go_wp2_with fail
  refine (awake19 w1).mono ?_
  rintro e w2 ⟨rfl, hL⟩
  have hM2 : Below N w w2 := below_more hM1 hL hs1
  have hs2 : N ≤ w2.heap.size := Nat.le_trans hs1 (hL).size
  have E_2 := Lib.hid (E_1.out.below hL)
  clear E_1
  have K_2 := Lib.hid (K_1.out.below hL)
  clear K_1
  have D_2 := Lib.hid (D_1.out.below hL)
  clear D_1
  have C_2 := Lib.hid (C_1.out.below hL)
  clear C_1
  clear hM1 hs1
  clear hL
  go_wp2_with fail
  go_ret
  exact ⟨rfl, by rw [HN.out]; exact hM2⟩
set_option maxHeartbeats 6400000 in
set_option maxRecDepth 100000 in
theorem AM_fd (vk : Value) (key : List UInt8) (vd : Value) (data : List UInt8) (vc : Value) (code : List UInt8) (w : World) (hE : Et w) (hk : SlB w vk key) (hd : SlB w vd data) (hc : SlB w vc code) (h1 : key.length ≤ 100) (h2 : ¬ data.length ≤ 300) : Calls Tryd.prog 14 #[vk, vd, vc] w fun e w' => e = .returned (.bool true) ∧ Below w.heap.size w w' := by
  obtain ⟨N, hN⟩ : ∃ N, w.heap.size = N := ⟨_, rfl⟩
  have HN := Lib.hid hN
  have HK := Lib.hid hk
  have HD := Lib.hid hd
  have HC := Lib.hid hc
  obtain ⟨K, eK⟩ : ∃ K, key.length = K := ⟨_, rfl⟩
  obtain ⟨L, eL⟩ : ∃ L, data.length = L := ⟨_, rfl⟩
  obtain ⟨M, eM⟩ : ∃ M, code.length = M := ⟨_, rfl⟩
  obtain ⟨A, c, rfl, _, p1, p2, _⟩ := hk
  obtain ⟨B, d, rfl, _, q1, q2, _⟩ := hd
  obtain ⟨C, e9, rfl, _, r1, r2, _⟩ := hc
  have EK := Lib.hid eK
  have EL := Lib.hid eL
  have EM := Lib.hid eM
  rw [eK] at p1 HK
  rw [eL] at q1 HD
  rw [eM] at r1 HC
  rw [eK, eL, eM]
  rw [eK] at h1
  rw [eL] at h2
  clear eK eL eM
  have hM0 : Below N w w := Below.refl _ _
  have hs0 : N ≤ w.heap.size := by omega
  have E_0 := Lib.hid (hE)
  have K_0 := Lib.hid (HK.out)
  have D_0 := Lib.hid (HD.out)
  have C_0 := Lib.hid (HC.out)
  clear hE HK HD HC
  go_enter Tryd.func14, Tryd.ntmps14
  go_wp2_with fail
  refine (awake19 w).mono ?_
  rintro e w1 ⟨rfl, hL⟩
  have hM1 : Below N w w1 := below_more hM0 hL hs0
  have hs1 : N ≤ w1.heap.size := Nat.le_trans hs0 (hL).size
  have E_1 := Lib.hid (E_0.out.below hL)
  clear E_0
  have K_1 := Lib.hid (K_0.out.below hL)
  clear K_0
  have D_1 := Lib.hid (D_0.out.below hL)
  clear D_0
  have C_1 := Lib.hid (C_0.out.below hL)
  clear C_0
  clear hM0 hs0
  clear hL
  go_wp2_with fail
  refine (awake19 w1).mono ?_
  rintro e w2 ⟨rfl, hL⟩
  have hM2 : Below N w w2 := below_more hM1 hL hs1
  have hs2 : N ≤ w2.heap.size := Nat.le_trans hs1 (hL).size
  have E_2 := Lib.hid (E_1.out.below hL)
  clear E_1
  have K_2 := Lib.hid (K_1.out.below hL)
  clear K_1
  have D_2 := Lib.hid (D_1.out.below hL)
  clear D_1
  have C_2 := Lib.hid (C_1.out.below hL)
  clear C_1
  clear hM1 hs1
  clear hL
  go_wp2_with fail
  go_ret
  exact ⟨rfl, by rw [HN.out]; exact hM2⟩
set_option maxHeartbeats 6400000 in
set_option maxRecDepth 100000 in
theorem AM_fc (vk : Value) (key : List UInt8) (vd : Value) (data : List UInt8) (vc : Value) (code : List UInt8) (w : World) (hE : Et w) (hk : SlB w vk key) (hd : SlB w vd data) (hc : SlB w vc code) (h1 : key.length ≤ 100) (h2 : data.length ≤ 300) (h3 : ¬ code.length ≤ 100) : Calls Tryd.prog 14 #[vk, vd, vc] w fun e w' => e = .returned (.bool true) ∧ Below w.heap.size w w' := by
  obtain ⟨N, hN⟩ : ∃ N, w.heap.size = N := ⟨_, rfl⟩
  have HN := Lib.hid hN
  have HK := Lib.hid hk
  have HD := Lib.hid hd
  have HC := Lib.hid hc
  obtain ⟨K, eK⟩ : ∃ K, key.length = K := ⟨_, rfl⟩
  obtain ⟨L, eL⟩ : ∃ L, data.length = L := ⟨_, rfl⟩
  obtain ⟨M, eM⟩ : ∃ M, code.length = M := ⟨_, rfl⟩
  obtain ⟨A, c, rfl, _, p1, p2, _⟩ := hk
  obtain ⟨B, d, rfl, _, q1, q2, _⟩ := hd
  obtain ⟨C, e9, rfl, _, r1, r2, _⟩ := hc
  have EK := Lib.hid eK
  have EL := Lib.hid eL
  have EM := Lib.hid eM
  rw [eK] at p1 HK
  rw [eL] at q1 HD
  rw [eM] at r1 HC
  rw [eK, eL, eM]
  rw [eK] at h1
  rw [eL] at h2
  rw [eM] at h3
  clear eK eL eM
  have hM0 : Below N w w := Below.refl _ _
  have hs0 : N ≤ w.heap.size := by omega
  have E_0 := Lib.hid (hE)
  have K_0 := Lib.hid (HK.out)
  have D_0 := Lib.hid (HD.out)
  have C_0 := Lib.hid (HC.out)
  clear hE HK HD HC
  go_enter Tryd.func14, Tryd.ntmps14
  go_wp2_with fail
  refine (awake19 w).mono ?_
  rintro e w1 ⟨rfl, hL⟩
  have hM1 : Below N w w1 := below_more hM0 hL hs0
  have hs1 : N ≤ w1.heap.size := Nat.le_trans hs0 (hL).size
  have E_1 := Lib.hid (E_0.out.below hL)
  clear E_0
  have K_1 := Lib.hid (K_0.out.below hL)
  clear K_0
  have D_1 := Lib.hid (D_0.out.below hL)
  clear D_0
  have C_1 := Lib.hid (C_0.out.below hL)
  clear C_0
  clear hM0 hs0
  clear hL
  go_wp2_with fail
  refine (awake19 w1).mono ?_
  rintro e w2 ⟨rfl, hL⟩
  have hM2 : Below N w w2 := below_more hM1 hL hs1
  have hs2 : N ≤ w2.heap.size := Nat.le_trans hs1 (hL).size
  have E_2 := Lib.hid (E_1.out.below hL)
  clear E_1
  have K_2 := Lib.hid (K_1.out.below hL)
  clear K_1
  have D_2 := Lib.hid (D_1.out.below hL)
  clear D_1
  have C_2 := Lib.hid (C_1.out.below hL)
  clear C_1
  clear hM1 hs1
  clear hL
  go_wp2_with fail
  go_ret
  exact ⟨rfl, by rw [HN.out]; exact hM2⟩
set_option maxHeartbeats 6400000 in
set_option maxRecDepth 100000 in
theorem AM_bk (vk : Value) (key : List UInt8) (vd : Value) (data : List UInt8) (vc : Value) (code : List UInt8) (w : World) (hE : Et w) (hk : SlB w vk key) (hd : SlB w vd data) (hc : SlB w vc code) (h1 : key.length ≤ 100) (h2 : data.length ≤ 300) (h3 : code.length ≤ 100) (h4 : key.length ≠ 16) : Calls Tryd.prog 14 #[vk, vd, vc] w fun e w' => e = .returned (.bool true) ∧ Below w.heap.size w w' := by
  obtain ⟨N, hN⟩ : ∃ N, w.heap.size = N := ⟨_, rfl⟩
  have HN := Lib.hid hN
  have HK := Lib.hid hk
  have HD := Lib.hid hd
  have HC := Lib.hid hc
  obtain ⟨K, eK⟩ : ∃ K, key.length = K := ⟨_, rfl⟩
  obtain ⟨L, eL⟩ : ∃ L, data.length = L := ⟨_, rfl⟩
  obtain ⟨M, eM⟩ : ∃ M, code.length = M := ⟨_, rfl⟩
  obtain ⟨A, c, rfl, _, p1, p2, _⟩ := hk
  obtain ⟨B, d, rfl, _, q1, q2, _⟩ := hd
  obtain ⟨C, e9, rfl, _, r1, r2, _⟩ := hc
  have EK := Lib.hid eK
  have EL := Lib.hid eL
  have EM := Lib.hid eM
  rw [eK] at p1 HK
  rw [eL] at q1 HD
  rw [eM] at r1 HC
  rw [eK, eL, eM]
  rw [eK] at h1
  rw [eL] at h2
  rw [eM] at h3
  have HBD := Lib.hid (show key.length ≠ 16 ∨ 255 < data.length from .inl h4)
  rw [eK] at h4
  have f1 : ((K : Int) != 16) = true := by simp; omega
  clear h4
  clear eK eL eM
  have hM0 : Below N w w := Below.refl _ _
  have hs0 : N ≤ w.heap.size := by omega
  have E_0 := Lib.hid (hE)
  have K_0 := Lib.hid (HK.out)
  have D_0 := Lib.hid (HD.out)
  have C_0 := Lib.hid (HC.out)
  clear hE HK HD HC
  go_enter Tryd.func14, Tryd.ntmps14
  go_wp2_with fail
  refine (awake19 w).mono ?_
  rintro e w1 ⟨rfl, hL⟩
  have hM1 : Below N w w1 := below_more hM0 hL hs0
  have hs1 : N ≤ w1.heap.size := Nat.le_trans hs0 (hL).size
  have E_1 := Lib.hid (E_0.out.below hL)
  clear E_0
  have K_1 := Lib.hid (K_0.out.below hL)
  clear K_0
  have D_1 := Lib.hid (D_0.out.below hL)
  clear D_0
  have C_1 := Lib.hid (C_0.out.below hL)
  clear C_0
  clear hM0 hs0
  clear hL
  go_wp2_with fail
  refine (Make_bad _ _ key data w1 K_1.out D_1.out (by rw [EK.out]; omega) (by rw [EL.out]; omega) HBD.out).mono ?_
  rintro e w1 ⟨rfl, rfl⟩
  go_wp2_with fail
  refine (Verify_bad _ _ _ key data code w1 K_1.out D_1.out C_1.out (by rw [EK.out]; omega) (by rw [EL.out]; omega) HBD.out).mono ?_
  rintro e w1 ⟨rfl, rfl⟩
  go_wp2_with fail
  refine (Code_any [] 2 _ w1 E_1.out rfl).mono ?_
  rintro e w2 ⟨rfl, hL⟩
  have hM2 : Below N w w2 := below_more hM1 hL hs1
  have hs2 : N ≤ w2.heap.size := Nat.le_trans hs1 (hL).size
  have E_2 := Lib.hid (E_1.out.below hL)
  clear E_1
  have K_2 := Lib.hid (K_1.out.below hL)
  clear K_1
  have D_2 := Lib.hid (D_1.out.below hL)
  clear D_1
  have C_2 := Lib.hid (C_1.out.below hL)
  clear C_1
  clear hM1 hs1
  clear hL
  go_wp2_with fail
  refine (Code_any [] 2 _ w2 E_2.out rfl).mono ?_
  rintro e w3 ⟨rfl, hL⟩
  have hM3 : Below N w w3 := below_more hM2 hL hs2
  have hs3 : N ≤ w3.heap.size := Nat.le_trans hs2 (hL).size
  have E_3 := Lib.hid (E_2.out.below hL)
  clear E_2
  have K_3 := Lib.hid (K_2.out.below hL)
  clear K_2
  have D_3 := Lib.hid (D_2.out.below hL)
  clear D_2
  have C_3 := Lib.hid (C_2.out.below hL)
  clear C_2
  clear hM2 hs2
  clear hL
  go_wp2_with fail
  go_ret
  exact ⟨rfl, by rw [HN.out]; exact hM3⟩
set_option maxHeartbeats 6400000 in
set_option maxRecDepth 100000 in
theorem AM_bd (vk : Value) (key : List UInt8) (vd : Value) (data : List UInt8) (vc : Value) (code : List UInt8) (w : World) (hE : Et w) (hk : SlB w vk key) (hd : SlB w vd data) (hc : SlB w vc code) (h1 : key.length ≤ 100) (h2 : data.length ≤ 300) (h3 : code.length ≤ 100) (h4 : key.length = 16) (h5 : 255 < data.length) : Calls Tryd.prog 14 #[vk, vd, vc] w fun e w' => e = .returned (.bool true) ∧ Below w.heap.size w w' := by
  obtain ⟨N, hN⟩ : ∃ N, w.heap.size = N := ⟨_, rfl⟩
  have HN := Lib.hid hN
  have HK := Lib.hid hk
  have HD := Lib.hid hd
  have HC := Lib.hid hc
  obtain ⟨K, eK⟩ : ∃ K, key.length = K := ⟨_, rfl⟩
  obtain ⟨L, eL⟩ : ∃ L, data.length = L := ⟨_, rfl⟩
  obtain ⟨M, eM⟩ : ∃ M, code.length = M := ⟨_, rfl⟩
  obtain ⟨A, c, rfl, _, p1, p2, _⟩ := hk
  obtain ⟨B, d, rfl, _, q1, q2, _⟩ := hd
  obtain ⟨C, e9, rfl, _, r1, r2, _⟩ := hc
  have EK := Lib.hid eK
  have EL := Lib.hid eL
  have EM := Lib.hid eM
  rw [eK] at p1 HK
  rw [eL] at q1 HD
  rw [eM] at r1 HC
  rw [eK, eL, eM]
  rw [eK] at h1
  rw [eL] at h2
  rw [eM] at h3
  have HBD := Lib.hid (show key.length ≠ 16 ∨ 255 < data.length from .inr h5)
  rw [eK] at h4
  rw [eL] at h5
  have f1 : ((K : Int) != 16) = false := by simp; omega
  have f2 : (255 : Int) < (L : Int) := by omega
  clear h4 h5
  clear eK eL eM
  have hM0 : Below N w w := Below.refl _ _
  have hs0 : N ≤ w.heap.size := by omega
  have E_0 := Lib.hid (hE)
  have K_0 := Lib.hid (HK.out)
  have D_0 := Lib.hid (HD.out)
  have C_0 := Lib.hid (HC.out)
  clear hE HK HD HC
  go_enter Tryd.func14, Tryd.ntmps14
  go_wp2_with fail
  refine (awake19 w).mono ?_
  rintro e w1 ⟨rfl, hL⟩
  have hM1 : Below N w w1 := below_more hM0 hL hs0
  have hs1 : N ≤ w1.heap.size := Nat.le_trans hs0 (hL).size
  have E_1 := Lib.hid (E_0.out.below hL)
  clear E_0
  have K_1 := Lib.hid (K_0.out.below hL)
  clear K_0
  have D_1 := Lib.hid (D_0.out.below hL)
  clear D_0
  have C_1 := Lib.hid (C_0.out.below hL)
  clear C_0
  clear hM0 hs0
  clear hL
  go_wp2_with fail
  refine (Make_bad _ _ key data w1 K_1.out D_1.out (by rw [EK.out]; omega) (by rw [EL.out]; omega) HBD.out).mono ?_
  rintro e w1 ⟨rfl, rfl⟩
  go_wp2_with fail
  refine (Verify_bad _ _ _ key data code w1 K_1.out D_1.out C_1.out (by rw [EK.out]; omega) (by rw [EL.out]; omega) HBD.out).mono ?_
  rintro e w1 ⟨rfl, rfl⟩
  go_wp2_with fail
  refine (Code_any [] 2 _ w1 E_1.out rfl).mono ?_
  rintro e w2 ⟨rfl, hL⟩
  have hM2 : Below N w w2 := below_more hM1 hL hs1
  have hs2 : N ≤ w2.heap.size := Nat.le_trans hs1 (hL).size
  have E_2 := Lib.hid (E_1.out.below hL)
  clear E_1
  have K_2 := Lib.hid (K_1.out.below hL)
  clear K_1
  have D_2 := Lib.hid (D_1.out.below hL)
  clear D_1
  have C_2 := Lib.hid (C_1.out.below hL)
  clear C_1
  clear hM1 hs1
  clear hL
  go_wp2_with fail
  refine (Code_any [] 2 _ w2 E_2.out rfl).mono ?_
  rintro e w3 ⟨rfl, hL⟩
  have hM3 : Below N w w3 := below_more hM2 hL hs2
  have hs3 : N ≤ w3.heap.size := Nat.le_trans hs2 (hL).size
  have E_3 := Lib.hid (E_2.out.below hL)
  clear E_2
  have K_3 := Lib.hid (K_2.out.below hL)
  clear K_2
  have D_3 := Lib.hid (D_2.out.below hL)
  clear D_2
  have C_3 := Lib.hid (C_2.out.below hL)
  clear C_2
  clear hM2 hs2
  clear hL
  go_wp2_with fail
  go_ret
  exact ⟨rfl, by rw [HN.out]; exact hM3⟩
set_option maxHeartbeats 6400000 in
set_option maxRecDepth 100000 in
theorem AM_eq (vk : Value) (key : List UInt8) (vd : Value) (data : List UInt8) (vc : Value) (code : List UInt8) (w : World) (hE : Et w) (hk : SlB w vk key) (hd : SlB w vd data) (hc : SlB w vc code) (h1 : key.length ≤ 100) (h2 : data.length ≤ 300) (h3 : code.length ≤ 100) (h4 : key.length = 16) (h5 : data.length ≤ 255) (h6 : pretail key data = code) : Calls Tryd.prog 14 #[vk, vd, vc] w fun e w' => e = .returned (.bool true) ∧ Below w.heap.size w w' := by
  obtain ⟨N, hN⟩ : ∃ N, w.heap.size = N := ⟨_, rfl⟩
  have HN := Lib.hid hN
  have HK := Lib.hid hk
  have HD := Lib.hid hd
  have HC := Lib.hid hc
  obtain ⟨K, eK⟩ : ∃ K, key.length = K := ⟨_, rfl⟩
  obtain ⟨L, eL⟩ : ∃ L, data.length = L := ⟨_, rfl⟩
  obtain ⟨M, eM⟩ : ∃ M, code.length = M := ⟨_, rfl⟩
  obtain ⟨A, c, rfl, _, p1, p2, _⟩ := hk
  obtain ⟨B, d, rfl, _, q1, q2, _⟩ := hd
  obtain ⟨C, e9, rfl, _, r1, r2, _⟩ := hc
  have EK := Lib.hid eK
  have EL := Lib.hid eL
  have EM := Lib.hid eM
  rw [eK] at p1 HK
  rw [eL] at q1 HD
  rw [eM] at r1 HC
  rw [eK, eL, eM]
  rw [eK] at h1
  rw [eL] at h2
  rw [eM] at h3
  have HKL := Lib.hid h4
  rw [eK] at h4
  rw [eL] at h5
  subst h4
  have f2 : ¬ (255 : Int) < (L : Int) := by omega
  have HEQ := Lib.hid (show (pretail key data == code) = true from by rw [h6]; simp)
  have HEQ2 := Lib.hid (show (code == pretail key data) = true from by rw [h6]; simp)
  clear h6
  clear eK eL eM
  have hM0 : Below N w w := Below.refl _ _
  have hs0 : N ≤ w.heap.size := by omega
  have E_0 := Lib.hid (hE)
  have K_0 := Lib.hid (HK.out)
  have D_0 := Lib.hid (HD.out)
  have C_0 := Lib.hid (HC.out)
  clear hE HK HD HC
  go_enter Tryd.func14, Tryd.ntmps14
  go_wp2_with fail
  refine (awake19 w).mono ?_
  rintro e w1 ⟨rfl, hL⟩
  have hM1 : Below N w w1 := below_more hM0 hL hs0
  have hs1 : N ≤ w1.heap.size := Nat.le_trans hs0 (hL).size
  have E_1 := Lib.hid (E_0.out.below hL)
  clear E_0
  have K_1 := Lib.hid (K_0.out.below hL)
  clear K_0
  have D_1 := Lib.hid (D_0.out.below hL)
  clear D_0
  have C_1 := Lib.hid (C_0.out.below hL)
  clear C_0
  clear hM0 hs0
  clear hL
  go_wp2_with fail
  refine (Make_any _ _ key data w1 K_1.out HKL.out D_1.out (by rw [EL.out]; omega)).mono ?_
  rintro e w2 ⟨vX, rfl, hO, hL⟩
  obtain ⟨AX, cX, rfl, hcX⟩ := hO.slB.formc (pretail_len key data)
  have hM2 : Below N w w2 := below_more hM1 hL hs1
  have hs2 : N ≤ w2.heap.size := Nat.le_trans hs1 (hL).size
  have E_2 := Lib.hid (E_1.out.below hL)
  clear E_1
  have K_2 := Lib.hid (K_1.out.below hL)
  clear K_1
  have D_2 := Lib.hid (D_1.out.below hL)
  clear D_1
  have C_2 := Lib.hid (C_1.out.below hL)
  clear C_1
  clear hM1 hs1
  have X_2 := Lib.hid (hO)
  clear hL hO
  go_wp2_with fail
  refine (Verify_any _ _ _ key data code w2 K_2.out HKL.out D_2.out (by rw [EL.out]; omega) C_2.out).mono ?_
  rintro e w3 ⟨rfl, hL⟩
  rw [HEQ.out, show sumErr true = Value.nilIface from rfl]
  have hM3 : Below N w w3 := below_more hM2 hL hs2
  have hs3 : N ≤ w3.heap.size := Nat.le_trans hs2 (hL).size
  have E_3 := Lib.hid (E_2.out.below hL)
  clear E_2
  have K_3 := Lib.hid (K_2.out.below hL)
  clear K_2
  have D_3 := Lib.hid (D_2.out.below hL)
  clear D_2
  have C_3 := Lib.hid (C_2.out.below hL)
  clear C_2
  have X_3 := Lib.hid (X_2.out.under hL)
  clear X_2
  clear hM2 hs2
  clear hL
  go_wp2_with fail
  refine (rRetail_any _ _ key data w3 K_3.out HKL.out D_3.out (by rw [EL.out]; omega)).mono ?_
  rintro e w4 ⟨vY, rfl, hO, hL⟩
  obtain ⟨AY, cY, rfl, hcY⟩ := hO.slB.formc (pretail_len key data)
  have hM4 : Below N w w4 := below_more hM3 hL hs3
  have hs4 : N ≤ w4.heap.size := Nat.le_trans hs3 (hL).size
  have E_4 := Lib.hid (E_3.out.below hL)
  clear E_3
  have K_4 := Lib.hid (K_3.out.below hL)
  clear K_3
  have D_4 := Lib.hid (D_3.out.below hL)
  clear D_3
  have C_4 := Lib.hid (C_3.out.below hL)
  clear C_3
  have X_4 := Lib.hid (X_3.out.under hL)
  clear X_3
  clear hM3 hs3
  have Y_4 := Lib.hid (hO)
  clear hL hO
  go_wp2_with fail
  refine (Same_any _ _ (pretail key data) (pretail key data) w4 X_4.out.slB Y_4.out.slB (by rw [pretail_len]; decide)).mono ?_
  rintro e w5 ⟨rfl, hD⟩
  rw [beq_self_eq_true]
  have hM5 : Below N w w5 := below_more hM4 hD.below0 hs4
  have hs5 : N ≤ w5.heap.size := Nat.le_trans hs4 (hD.below0).size
  have E_5 := Lib.hid (E_4.out.below hD.below0)
  clear E_4
  have K_5 := Lib.hid (K_4.out.below hD.below0)
  clear K_4
  have D_5 := Lib.hid (D_4.out.below hD.below0)
  clear D_4
  have C_5 := Lib.hid (C_4.out.below hD.below0)
  clear C_4
  have X_5 := Lib.hid (X_4.out.under hD.below0)
  clear X_4
  have Y_5 := Lib.hid (Y_4.out.under hD.below0)
  clear Y_4
  clear hM4 hs4
  clear hD
  go_wp2_with fail
  refine (Same_any _ _ code (pretail key data) w5 C_5.out Y_5.out.slB (by rw [EM.out]; omega)).mono ?_
  rintro e w6 ⟨rfl, hD⟩
  rw [HEQ2.out]
  have hM6 : Below N w w6 := below_more hM5 hD.below0 hs5
  have hs6 : N ≤ w6.heap.size := Nat.le_trans hs5 (hD.below0).size
  have E_6 := Lib.hid (E_5.out.below hD.below0)
  clear E_5
  have K_6 := Lib.hid (K_5.out.below hD.below0)
  clear K_5
  have D_6 := Lib.hid (D_5.out.below hD.below0)
  clear D_5
  have C_6 := Lib.hid (C_5.out.below hD.below0)
  clear C_5
  have X_6 := Lib.hid (X_5.out.under hD.below0)
  clear X_5
  have Y_6 := Lib.hid (Y_5.out.under hD.below0)
  clear Y_5
  clear hM5 hs5
  clear hD
  go_wp2_with fail
  go_ret
  exact ⟨rfl, by rw [HN.out]; exact hM6⟩
set_option maxHeartbeats 6400000 in
set_option maxRecDepth 100000 in
theorem AM_ne (vk : Value) (key : List UInt8) (vd : Value) (data : List UInt8) (vc : Value) (code : List UInt8) (w : World) (hE : Et w) (hk : SlB w vk key) (hd : SlB w vd data) (hc : SlB w vc code) (h1 : key.length ≤ 100) (h2 : data.length ≤ 300) (h3 : code.length ≤ 100) (h4 : key.length = 16) (h5 : data.length ≤ 255) (h6 : ¬ pretail key data = code) : Calls Tryd.prog 14 #[vk, vd, vc] w fun e w' => e = .returned (.bool true) ∧ Below w.heap.size w w' := by
  obtain ⟨N, hN⟩ : ∃ N, w.heap.size = N := ⟨_, rfl⟩
  have HN := Lib.hid hN
  have HK := Lib.hid hk
  have HD := Lib.hid hd
  have HC := Lib.hid hc
  obtain ⟨K, eK⟩ : ∃ K, key.length = K := ⟨_, rfl⟩
  obtain ⟨L, eL⟩ : ∃ L, data.length = L := ⟨_, rfl⟩
  obtain ⟨M, eM⟩ : ∃ M, code.length = M := ⟨_, rfl⟩
  obtain ⟨A, c, rfl, _, p1, p2, _⟩ := hk
  obtain ⟨B, d, rfl, _, q1, q2, _⟩ := hd
  obtain ⟨C, e9, rfl, _, r1, r2, _⟩ := hc
  have EK := Lib.hid eK
  have EL := Lib.hid eL
  have EM := Lib.hid eM
  rw [eK] at p1 HK
  rw [eL] at q1 HD
  rw [eM] at r1 HC
  rw [eK, eL, eM]
  rw [eK] at h1
  rw [eL] at h2
  rw [eM] at h3
  have HKL := Lib.hid h4
  rw [eK] at h4
  rw [eL] at h5
  subst h4
  have f2 : ¬ (255 : Int) < (L : Int) := by omega
  have HEQ := Lib.hid (show (pretail key data == code) = false from beq_eq_false_iff_ne.2 h6)
  have HEQ2 := Lib.hid (show (code == pretail key data) = false from beq_eq_false_iff_ne.2 (fun e => h6 e.symm))
  clear h6
  clear eK eL eM
  have hM0 : Below N w w := Below.refl _ _
  have hs0 : N ≤ w.heap.size := by omega
  have E_0 := Lib.hid (hE)
  have K_0 := Lib.hid (HK.out)
  have D_0 := Lib.hid (HD.out)
  have C_0 := Lib.hid (HC.out)
  clear hE HK HD HC
  go_enter Tryd.func14, Tryd.ntmps14
  go_wp2_with fail
  refine (awake19 w).mono ?_
  rintro e w1 ⟨rfl, hL⟩
  have hM1 : Below N w w1 := below_more hM0 hL hs0
  have hs1 : N ≤ w1.heap.size := Nat.le_trans hs0 (hL).size
  have E_1 := Lib.hid (E_0.out.below hL)
  clear E_0
  have K_1 := Lib.hid (K_0.out.below hL)
  clear K_0
  have D_1 := Lib.hid (D_0.out.below hL)
  clear D_0
  have C_1 := Lib.hid (C_0.out.below hL)
  clear C_0
  clear hM0 hs0
  clear hL
  go_wp2_with fail
  refine (Make_any _ _ key data w1 K_1.out HKL.out D_1.out (by rw [EL.out]; omega)).mono ?_
  rintro e w2 ⟨vX, rfl, hO, hL⟩
  obtain ⟨AX, cX, rfl, hcX⟩ := hO.slB.formc (pretail_len key data)
  have hM2 : Below N w w2 := below_more hM1 hL hs1
  have hs2 : N ≤ w2.heap.size := Nat.le_trans hs1 (hL).size
  have E_2 := Lib.hid (E_1.out.below hL)
  clear E_1
  have K_2 := Lib.hid (K_1.out.below hL)
  clear K_1
  have D_2 := Lib.hid (D_1.out.below hL)
  clear D_1
  have C_2 := Lib.hid (C_1.out.below hL)
  clear C_1
  clear hM1 hs1
  have X_2 := Lib.hid (hO)
  clear hL hO
  go_wp2_with fail
  refine (Verify_any _ _ _ key data code w2 K_2.out HKL.out D_2.out (by rw [EL.out]; omega) C_2.out).mono ?_
  rintro e w3 ⟨rfl, hL⟩
  rw [HEQ.out, show sumErr false = Value.iface 106 (.int .i64 4) from rfl]
  have hM3 : Below N w w3 := below_more hM2 hL hs2
  have hs3 : N ≤ w3.heap.size := Nat.le_trans hs2 (hL).size
  have E_3 := Lib.hid (E_2.out.below hL)
  clear E_2
  have K_3 := Lib.hid (K_2.out.below hL)
  clear K_2
  have D_3 := Lib.hid (D_2.out.below hL)
  clear D_2
  have C_3 := Lib.hid (C_2.out.below hL)
  clear C_2
  have X_3 := Lib.hid (X_2.out.under hL)
  clear X_2
  clear hM2 hs2
  clear hL
  go_wp2_with fail
  refine (rRetail_any _ _ key data w3 K_3.out HKL.out D_3.out (by rw [EL.out]; omega)).mono ?_
  rintro e w4 ⟨vY, rfl, hO, hL⟩
  obtain ⟨AY, cY, rfl, hcY⟩ := hO.slB.formc (pretail_len key data)
  have hM4 : Below N w w4 := below_more hM3 hL hs3
  have hs4 : N ≤ w4.heap.size := Nat.le_trans hs3 (hL).size
  have E_4 := Lib.hid (E_3.out.below hL)
  clear E_3
  have K_4 := Lib.hid (K_3.out.below hL)
  clear K_3
  have D_4 := Lib.hid (D_3.out.below hL)
  clear D_3
  have C_4 := Lib.hid (C_3.out.below hL)
  clear C_3
  have X_4 := Lib.hid (X_3.out.under hL)
  clear X_3
  clear hM3 hs3
  have Y_4 := Lib.hid (hO)
  clear hL hO
  go_wp2_with fail
  refine (Same_any _ _ (pretail key data) (pretail key data) w4 X_4.out.slB Y_4.out.slB (by rw [pretail_len]; decide)).mono ?_
  rintro e w5 ⟨rfl, hD⟩
  rw [beq_self_eq_true]
  have hM5 : Below N w w5 := below_more hM4 hD.below0 hs4
  have hs5 : N ≤ w5.heap.size := Nat.le_trans hs4 (hD.below0).size
  have E_5 := Lib.hid (E_4.out.below hD.below0)
  clear E_4
  have K_5 := Lib.hid (K_4.out.below hD.below0)
  clear K_4
  have D_5 := Lib.hid (D_4.out.below hD.below0)
  clear D_4
  have C_5 := Lib.hid (C_4.out.below hD.below0)
  clear C_4
  have X_5 := Lib.hid (X_4.out.under hD.below0)
  clear X_4
  have Y_5 := Lib.hid (Y_4.out.under hD.below0)
  clear Y_4
  clear hM4 hs4
  clear hD
  go_wp2_with fail
  refine (Same_any _ _ code (pretail key data) w5 C_5.out Y_5.out.slB (by rw [EM.out]; omega)).mono ?_
  rintro e w6 ⟨rfl, hD⟩
  rw [HEQ2.out]
  have hM6 : Below N w w6 := below_more hM5 hD.below0 hs5
  have hs6 : N ≤ w6.heap.size := Nat.le_trans hs5 (hD.below0).size
  have E_6 := Lib.hid (E_5.out.below hD.below0)
  clear E_5
  have K_6 := Lib.hid (K_5.out.below hD.below0)
  clear K_5
  have D_6 := Lib.hid (D_5.out.below hD.below0)
  clear D_5
  have C_6 := Lib.hid (C_5.out.below hD.below0)
  clear C_5
  have X_6 := Lib.hid (X_5.out.under hD.below0)
  clear X_5
  have Y_6 := Lib.hid (Y_5.out.under hD.below0)
  clear Y_5
  clear hM5 hs5
  clear hD
  go_wp2_with fail
  refine (Code_any [] 4 _ w6 E_6.out rfl).mono ?_
  rintro e w7 ⟨rfl, hL⟩
  have hM7 : Below N w w7 := below_more hM6 hL hs6
  have hs7 : N ≤ w7.heap.size := Nat.le_trans hs6 (hL).size
  have E_7 := Lib.hid (E_6.out.below hL)
  clear E_6
  have K_7 := Lib.hid (K_6.out.below hL)
  clear K_6
  have D_7 := Lib.hid (D_6.out.below hL)
  clear D_6
  have C_7 := Lib.hid (C_6.out.below hL)
  clear C_6
  have X_7 := Lib.hid (X_6.out.under hL)
  clear X_6
  have Y_7 := Lib.hid (Y_6.out.under hL)
  clear Y_6
  clear hM6 hs6
  clear hL
  go_wp2_with fail
  go_ret
  exact ⟨rfl, by rw [HN.out]; exact hM7⟩
theorem ArqcMakes_any (vk : Value) (key : List UInt8) (vd : Value) (data : List UInt8) (vc : Value) (code : List UInt8) (w : World) (hE : Et w) (hk : SlB w vk key) (hd : SlB w vd data) (hc : SlB w vc code) : Calls Tryd.prog 14 #[vk, vd, vc] w fun e w' => e = .returned (.bool true) ∧ Below w.heap.size w w' := by
  by_cases h1 : key.length ≤ 100
  · by_cases h2 : data.length ≤ 300
    · by_cases h3 : code.length ≤ 100
      · by_cases h4 : key.length = 16
        · by_cases h5 : data.length ≤ 255
          · by_cases h6 : pretail key data = code
            · exact AM_eq vk key vd data vc code w hE hk hd hc h1 h2 h3 h4 h5 h6
            · exact AM_ne vk key vd data vc code w hE hk hd hc h1 h2 h3 h4 h5 h6
          · exact AM_bd vk key vd data vc code w hE hk hd hc h1 h2 h3 h4 (by omega)
        · exact AM_bk vk key vd data vc code w hE hk hd hc h1 h2 h3 h4
      · exact AM_fc vk key vd data vc code w hE hk hd hc h1 h2 h3
    · exact AM_fd vk key vd data vc code w hE hk hd hc h1 h2
  · exact AM_fk vk key vd data vc code w hE hk hd hc h1
end Go.Proofs.YtjbdhnmkeaogcaaDoor
set_option linter.unusedVariables false
set_option linter.unusedSimpArgs false
namespace Lk
open Go Go.RowKit
/-- a slice of whole numbers as it is read -/
def IsRow (k : IntKind) (w : World) (a : Option Addr) (len cap : Nat) (zs : List Int) : Prop :=
  (a = none ∧ len = 0 ∧ cap = 0 ∧ zs = []) ∨
  ∃ x, a = some x ∧ len ≤ cap ∧ cap ≤ maxLen ∧ zs.length = cap ∧ (∀ i, i < zs.length → w.cell? (x.add i) = some (.int k (zs.getD i 0))) ∧ ∀ n ∈ zs, (Lit.int k n).wf = true
theorem u8_of_wf {n : Int} (h : (Lit.int .u8 n).wf = true) : n = bv (UInt8.ofNat n.toNat) := by
  obtain ⟨a, rfl⟩ := open_u8 h
  unfold bv
  simp
theorem slB_of_row {w : World} {a : Option Addr} {len cap : Nat} {zs : List Int} (h : IsRow .u8 w a len cap zs) : ∃ l : List UInt8, l.length = len ∧ SlB w (.slice a len cap) l := by
  rcases h with ⟨rfl, rfl, rfl, rfl⟩ | ⟨x, rfl, h1, h2, h3, h4, h5⟩
  · exact ⟨[], rfl, none, 0, rfl, fun _ => rfl, Nat.le_refl _, Nat.zero_le _, fun h => by omega⟩
  · have hl : ((zs.take len).map fun z => UInt8.ofNat z.toNat).length = len := by simp; omega
    refine ⟨(zs.take len).map fun z => UInt8.ofNat z.toNat, hl, some x, cap, by rw [hl], fun h => (by cases h), by rw [hl]; exact h1, h2, fun hc => ?_⟩
    have hx : x.spot = none := by
      have := h4 0 (by omega)
      have e : x.add 0 = x := by simp [Addr.add]
      rw [e] at this
      unfold World.cell? at this
      split at this
      · split at this
        · cases this
        · rename_i hs; simpa using hs
      · cases this
    obtain ⟨g, o, s⟩ := x
    cases hx
    refine ⟨g, o, rfl, fun k hk => ?_⟩
    rw [hl] at hk
    have hc := h4 k (by omega)
    have ea : (⟨g, o, none⟩ : Addr).add k = ⟨g, o + k, none⟩ := by unfold Addr.add; split <;> simp_all
    rw [ea] at hc
    rw [hc]
    have hm : zs.getD k 0 ∈ zs := by
      have : k < zs.length := by omega
      simp [this]
    have := u8_of_wf (h5 _ hm)
    have e : g8 ((zs.take len).map fun z => UInt8.ofNat z.toNat) k = UInt8.ofNat (zs.getD k 0).toNat := by
      unfold g8
      have : k < zs.length := by omega
      simp [List.getElem?_take, hk, this]
    rw [e, ← this]
section
variable {P : Program} {H : Type} {enc : TypeId × Value → H}
theorem open_slice_u8 {t e : TypeId} {W : World} {a : Option Addr} {len cap : Nat} {d : DataW H} {ps : List MemPlace} (ht : P.underlying t = some (.slice e)) (he : P.underlying e = some (.int .u8)) (hc : P.cellsOf e = 1)
    (h : DataW.Trod enc P W 0 (fun _ => true) true t (.slice a len cap) d ps) : ∃ l : List UInt8, l.length = len ∧ SlB W (.slice a len cap) l := by
  obtain ⟨zs, hz⟩ : ∃ zs, IsRow .u8 W a len cap zs := by
    obtain ⟨fuel, hf⟩ := h
    rcases Go.ChangeShapes.open_ints ht he hc hf with ⟨hcs, _⟩ | ⟨x, l, c, zs, hcs, _, hl, hm, hz, _, hcell, hwz⟩
    · simp [Value.cells] at hcs
      obtain ⟨rfl, rfl, rfl⟩ := hcs
      exact ⟨[], .inl ⟨rfl, rfl, rfl, rfl⟩⟩
    · simp [Value.cells] at hcs
      obtain ⟨rfl, rfl, rfl⟩ := hcs
      exact ⟨zs, .inr ⟨_, rfl, hl, hm, by simpa using hz, hcell, hwz⟩⟩
  exact slB_of_row hz
/-- an array of bytes -/
theorem open_arr_u8 {t e n : Nat} {W : World} {r : Reach} {base : Nat} {v : Value} (ht : P.underlying t = some (.array n e)) (he : P.underlying e = some (.int .u8)) (hc : P.cellsOf t = n) (hct : P.cellTypes P.depth t = some (List.replicate n e)) (hn : 0 < n)
    (h : Value.okWide P W r base t v) : ∃ l : List UInt8, l.length = n ∧ v = .agg (Bs l) := by
  simp only [Value.okWide, ht] at h
  obtain ⟨cs, rfl, hsz, ts, hts, _, hcell⟩ := h
  rw [hct] at hts
  cases hts
  rw [hc] at hsz
  refine ⟨cs.toList.map fun v => match v with | .int _ z => UInt8.ofNat z.toNat | _ => 0, by simp [hsz], ?_⟩
  congr 1
  apply Array.ext
  · simp [Bs]
  · intro i h1 h2
    obtain ⟨u, hu, hok⟩ := hcell i cs[i] (by simp [h1])
    have hue : u = e := by
      rw [List.getElem?_replicate] at hu
      split at hu
      · cases hu; rfl
      · cases hu
    subst hue
    simp only [Cell.okWide, he] at hok
    simp only [Bs, List.map_map, List.getElem_toArray, List.getElem_map, Function.comp_apply, Array.getElem_toList]
    cases hv : cs[i] with
    | int k z =>
      rw [hv] at hok
      simp only [Cell.ok, he] at hok
      obtain ⟨rfl, hw⟩ := hok
      have hw' : (Lit.int .u8 z).wf = true := by
        unfold Lit.wf
        rw [Bool.and_eq_true]
        exact ⟨decide_eq_true hw.1, decide_eq_true hw.2⟩
      simp only [← u8_of_wf hw']
    | _ => rw [hv] at hok; simp [Cell.ok, he] at hok
end
end Lk
set_option linter.unusedVariables false
namespace Go.Proofs.YtjbdhnmkeaogcaaDoor
open Go.ChangeShapes Go.WideShapes Go.RowKit
theorem ownKnobNone : ownKnob Tryd.prog.godebug = none := by kernel_rfl
theorem laidOutAll : laidOutB Tryd.prog = true := by kernel_rfl
theorem fct_laid : laidOutB Tryd.checked.prog = true := by kernel_rfl
theorem fct_maps : mapsRowed Tryd.checked.prog = true := by kernel_rfl
theorem fct_main : Tryd.pinned.checked.prog.mainIs = some (true, "8650a698aaa6e7940681561f98863e190d5ec889b7f6ab40edacde75e00aa3ea".toList) := by kernel_rfl
theorem fct_looks : true = Tryd.pinned.checked.prog.looks [] := by kernel_rfl
def laidList : List (String × DataW Unit) := [("errors.errorType", Rows.laid_errors_errorType)]
theorem et_g : Tryd.prog.globalNamed "errors.errorType" = some 0 := by kernel_rfl
theorem et_rt : (Tryd.prog.cutTypes.find? (·.1 == "internal/reflectlite.rtype")).map (·.2) = some 171 := by kernel_rfl
theorem et_row : ((List.range 242).filter fun t => Tryd.prog.rowNamed t [101, 114, 114, 111, 114]) = [29] := by kernel_rfl
theorem et_size : Tryd.prog.types.size = 242 := by kernel_rfl
theorem handle_of_laid {W : World} (h : laidMetH Tryd.prog laidList W) : Et W := by
  have h' : laidMet Tryd.prog [] W ∧ handlesMet Tryd.prog laidList W := h
  obtain ⟨name, u, ty, e1, e2, e3, e4, e5⟩ := h'.2 _ (List.mem_singleton.2 rfl)
  have en : name = [101, 114, 114, 111, 114] := (Option.some.inj e1).symm
  subst en
  obtain rfl := Option.some.inj (et_rt.symm.trans e2)
  have hm : ty ∈ (List.range 242).filter fun t => Tryd.prog.rowNamed t [101, 114, 114, 111, 114] := List.mem_filter.2 ⟨List.mem_range.2 (by rw [← et_size]; exact e3), e4⟩
  rw [et_row] at hm
  obtain rfl := List.mem_singleton.1 hm
  have hh : typeHandle Tryd.prog 29 = .pointer (some ⟨1, 29, none⟩) := by kernel_rfl
  rw [hh] at e5
  have := World.var?_cell et_g e5 0
  unfold Et hnd
  simpa using this
noncomputable def laidWorld (os : Os) : World :=
  let w0 := World.holding Tryd.prog os ⟨#[], #[], []⟩
  { w0 with heap := w0.heap.modify 0 fun
      | .cells _ t frozen => .cells #[.iface 171 (.agg #[.pointer (some ⟨1, 29, none⟩)])] t frozen
      | o => o }
theorem laidWorld_met (os : Os) (args : Array Value) : laidMetH Tryd.prog laidList ((laidWorld os).forCall (fun _ _ => 0) ⟨#[], args, []⟩).memory :=
  laidMetH_of_parts (laidMet_nil _ _) (by kernel_rfl)
end Go.Proofs.YtjbdhnmkeaogcaaDoor
namespace Go.Proofs.YtjbdhnmkeaogcaaDoor.arqcMakes
open Go.ChangeShapes Go.WideShapes Go.ChangeAt Go.RowKit Lk
open Go.ChangeMaps (open_string shut_string)
set_option linter.unusedVariables false
set_option linter.unusedSimpArgs false
set_option maxRecDepth 100000 in
theorem lifted (os : Os) (started : os.Started) (H : Type) (enc : TypeId × Value → H) :
    ReturnsInHanded {} Tryd.checked os 14 .any (fun w args => (Rows.arqcMakesSpec.pre enc Tryd.prog Tryd.f14 [] false w args ∧ laidMetH Tryd.prog laidList w) ∧ sizedMet enc Tryd.prog Tryd.f14 (OpenSpec.ofChange Rows.arqcMakesSpec) false w args)
      (Rows.arqcMakesSpec.post enc Tryd.prog Tryd.f14 false true false false) := by
  refine returnsInHanded_of_change_and (C := Tryd.checked) (X := fun w _ => laidMetH Tryd.prog laidList w) (fun _ _ _ hh h => h.of_heap hh) ownKnobNone started (by kernel_rfl) Tryd.func14
    (ChangeSpec.witness_at (enc := enc) (C := Tryd.checked) (os := os) (X := fun w _ => laidMetH Tryd.prog laidList w) false (laidWorld os) #[.slice none 0 0, .slice none 0 0, .slice none 0 0] 8 rfl (by kernel_rfl) (by kernel_rfl) (by kernel_rfl) (by kernel_rfl) (by kernel_rfl) (laidWorld_met os _)) ?_
  intro W base args ds gs before hval0 hW _ _ hLd _
  have hval : ∀ (j : Nat) t v, Tryd.f14.params[j]? = some t → args[j]? = some v → Value.okWide Tryd.prog W .any base t v := hval0
  have hW' := hW
  obtain ⟨p, q, hA0, hV, rfl, hfz, hnd⟩ := hW
  have hA : DataW.TrodAll enc Tryd.prog W 0 (fun _ => true) true Tryd.f14.params.toList args.toList ds p := hA0
  have hEt : Et W := handle_of_laid hLd
  rw [Tryd.params14] at hA hval
  obtain ⟨v0, vs0, d0, ds0, p0, q0, hargs, rfl, rfl, h0, r0⟩ := trodAll_cons hA
  obtain ⟨v1, vs1, d1, ds1, p1, q1, rfl, rfl, rfl, h1, r1⟩ := trodAll_cons r0
  obtain ⟨v2, vs2, d2, ds2, p2, q2, rfl, rfl, rfl, h2, r2⟩ := trodAll_cons r1
  obtain ⟨rfl, rfl, rfl⟩ := trodAll_nil r2
  obtain rfl : args = #[v0, v1, v2] := by cases args; simp_all
  obtain ⟨rfl, rfl⟩ := trodVars_none hV
  have k0 := h0
  have lt0 : ∀ x ∈ p0, x.block < W.heap.size := by obtain ⟨m, hm⟩ := k0; exact DataW.trod_lt m _ _ _ hm
  obtain ⟨a0, len0, cap0, rfl⟩ := okWide_slice Tryd.underlying22 (hval 0 22 v0 rfl rfl)
  obtain ⟨l0, hl0, s0⟩ := open_slice_u8 Tryd.underlying22 Tryd.underlying5 (by kernel_rfl) h0
  have k1 := h1
  have lt1 : ∀ x ∈ p1, x.block < W.heap.size := by obtain ⟨m, hm⟩ := k1; exact DataW.trod_lt m _ _ _ hm
  obtain ⟨a1, len1, cap1, rfl⟩ := okWide_slice Tryd.underlying22 (hval 1 22 v1 rfl rfl)
  obtain ⟨l1, hl1, s1⟩ := open_slice_u8 Tryd.underlying22 Tryd.underlying5 (by kernel_rfl) h1
  have k2 := h2
  have lt2 : ∀ x ∈ p2, x.block < W.heap.size := by obtain ⟨m, hm⟩ := k2; exact DataW.trod_lt m _ _ _ hm
  obtain ⟨a2, len2, cap2, rfl⟩ := okWide_slice Tryd.underlying22 (hval 2 22 v2 rfl rfl)
  obtain ⟨l2, hl2, s2⟩ := open_slice_u8 Tryd.underlying22 Tryd.underlying5 (by kernel_rfl) h2
  clear hA0 hval0
  refine (ArqcMakes_any _ l0 _ l1 _ l2 W hEt s0 s1 s2).mono fun e W' ⟨he, bel⟩ => ?_
  subst he
  exact ⟨_, rfl, _, _, _, [], _, [], hW', trodAll_mk1 (shut_bool Tryd.underlying4 _), (trodAll_cons_mk (Below.trod laidOutAll (by kernel_rfl) (of_decide_eq_true (by kernel_rfl)) k0 bel lt0) (trodAll_cons_mk (Below.trod laidOutAll (by kernel_rfl) (of_decide_eq_true (by kernel_rfl)) k1 bel lt1) (trodAll_cons_mk (Below.trod laidOutAll (by kernel_rfl) (of_decide_eq_true (by kernel_rfl)) k2 bel lt2) trodAll_mk0))), rfl, bel.frame _, fun h => by cases h⟩
set_option maxHeartbeats 8000000 in
theorem closed : joinedFacts Tryd.checked.prog 14 Tryd.f14 Rows.arqcMakesSpec Rows.arqcMakesRow = true := by
  unfold joinedFacts
  simp only [Bool.and_eq_true]
  repeat' apply And.intro
  all_goals first | with_reducible exact fct_laid | with_reducible exact fct_maps | as_aux_lemma => kernel_rfl
theorem named_f : Tryd.prog.funcNamed "lockbox/lockboxlaw19.ArqcMakes" = some 14 := by kernel_rfl
theorem over : Rows.ArqcMakesSaid :=
  OpenClaim.holds_of_wide 14 Tryd.f14 rfl rfl rfl rfl rfl rfl rfl ⟨rfl, rfl, rfl, rfl, rfl⟩ rfl rfl rfl rfl rfl named_f Tryd.func14 closed
    (of_decide_eq_true (by kernel_rfl)) (by unfold Func.isWrapper; first | (rw [if_pos (by decide +kernel)]; kernel_rfl) | (rw [if_neg (by decide +kernel)]; exact ⟨rfl, rfl⟩))
    (fun os started H enc _ => lifted os started H enc)
theorem params_ok (j : Nat) (t : TypeId) (ht : Tryd.f14.params[j]? = some t) : Tryd.prog.wantsStandIn t = false := by
  rw [Tryd.params14] at ht
  have hm : t ∈ #[22, 22, 22] := Array.mem_of_getElem? ht
  simp only [List.mem_toArray, List.mem_cons, List.not_mem_nil, or_false] at hm
  rcases hm with rfl | rfl | rfl
  · show Tryd.prog.wantsStandIn 22 = false
    kernel_rfl
  · show Tryd.prog.wantsStandIn 22 = false
    kernel_rfl
  · show Tryd.prog.wantsStandIn 22 = false
    kernel_rfl
theorem wf_text : Rows.arqcMakesRow.wfByText (OpenSpec.ofChange Rows.arqcMakesSpec) = true := by kernel_rfl
theorem goes_no : false = Rows.arqcMakesRow.goesBy Tryd.pinned.checked.prog := by kernel_rfl
theorem card_holds : Rows.ArqcMakesCardSaid :=
  Claim7.holds_tied_plain_at .later [] [.handle] true (true, "8650a698aaa6e7940681561f98863e190d5ec889b7f6ab40edacde75e00aa3ea") true
    over (fun _ h => by cases h) wf_text (fun _ h => by cases h) arqcMakes_row_tie rfl ⟨rfl, rfl⟩ fct_main rfl
    (fun f fn hf hfn => by
      obtain rfl : f = 14 := Option.some.inj (named_f.symm.trans hf) |>.symm
      obtain rfl : fn = Tryd.f14 := (Option.some.inj (Tryd.func14.symm.trans hfn)).symm
      exact ⟨fct_looks, fun j t ht => params_ok j t ht⟩)
    goes_no
#print axioms card_holds
end Go.Proofs.YtjbdhnmkeaogcaaDoor.arqcMakes
namespace Go.Proofs.YtjbdhnmkeaogcaaDoor
/-- The card, under a short name, for the claim. -/
theorem arqcMakes_holds : Rows.ArqcMakesCardSaid := arqcMakes.card_holds
end Go.Proofs.YtjbdhnmkeaogcaaDoor
