/- of whatever key and chain, whatever bytes: the chain then, or what is wrong -/
import Derived.Test.YtpfmhohldfnhmaaGreatDoorKAU3
import Derived.Test.YtpfmhohldfnhmaaGreatDoorKB0
import Derived.WalkKit
import Derived.ProofKit
import Derived.OpenShut
import Derived.ShutString
import Derived.ChangeOld
import Derived.SizedLaws
import Derived.ChangeSlices
import Derived.Test.YtpfmhohldfnhmaaGreatDoorKAU0
import Derived.Test.YtpfmhohldfnhmaaGreatDoorRows
import Derived.Test.YtpfmhohldfnhmaaGreatDoorKB6
import Derived.ChangeSame
import Derived.ChangeVars
import Derived.JoinedOf
import Derived.RowKit
import Derived.RowKitTokens
import Derived.LaidLaws
import Derived.LaidHandle
import Derived.Stop.Joined
import Derived.SevenTiedAt
import Derived.Test.YtpfmhohldfnhmaaGreatDoorCards
import Derived.Test.YtpfmhohldfnhmaaGreatDoorTie
set_option linter.unusedVariables false
set_option linter.unusedSimpArgs false
namespace Go.Proofs.YtpfmhohldfnhmaaGreatDoor
open Go Go.RowKit Lk
set_option maxHeartbeats 12800000 in
set_option maxRecDepth 100000 in
theorem AA_f0 (vk ve : Value) (key : List UInt8) (z : Int) (m l : List UInt8) (w : World) (hE : Et w) (hk : SlB w vk key) (hm : m.length = 16) (he : SlB w ve l) (b0 : ¬ key.length ≤ 100) : Calls Tryz.prog 7 #[vk, .agg (ch z m), ve] w fun e w' => e = .returned (.bool true) ∧ Below w.heap.size w w' := by
  obtain ⟨N, hN⟩ : ∃ N, w.heap.size = N := ⟨_, rfl⟩
  have HN := Lib.hid hN
  have HM := Lib.hid hm
  obtain ⟨LK, hL⟩ : ∃ L, key.length = L := ⟨_, rfl⟩
  obtain ⟨Ak, ck, rfl, hck⟩ := hk.formc hL
  rw [hL] at b0
  obtain ⟨LR, hLR⟩ : ∃ L, l.length = L := ⟨_, rfl⟩
  obtain ⟨Ar, cr, rfl, hcr⟩ := he.formc hLR
  try rw [hLR] at b1
  have i0 : decide ((100 : Int) < (LK : Int)) = true := by simp; omega
  have hM0 : Below N w w := Below.refl _ _
  have hs0 : N ≤ w.heap.size := by omega
  have E_0 := Lib.hid (hE)
  clear hE
  go_enter Tryz.func7, Tryz.ntmps7
  go_wp2_with (first | ((with_reducible show wpList _ _ _ _ _ w); refine box_ch (w := w) rfl 55 _ rfl z m (by rfl) ?_; intro u1 hA0 hG0 hz0; have hL : Below w.heap.size w u1 := below_none (Below.refl _ _) (Nat.le_refl _) hG0; rw [hN] at hA0 ⊢; clear hG0 hz0; have hM1 : Below N w u1 := below_more hM0 hL hs0; have hs1 : N ≤ u1.heap.size := Nat.le_trans hs0 (hL).size; have E_1 := Lib.hid (E_0.out.below hL); clear E_0; clear hM0 hs0; have C_1 := Lib.hid (hA0); clear hL hA0) | (go_at_call 30; (with_reducible show Calls _ _ _ u1 _); refine (awake23 u1).mono ?_; rintro e w2 ⟨rfl, hL⟩; have hM2 : Below N w w2 := below_more hM1 hL hs1; have hs2 : N ≤ w2.heap.size := Nat.le_trans hs1 (hL).size; have E_2 := Lib.hid (E_1.out.below hL); clear E_1; have C_2 := Lib.hid (C_1.out.under hL); clear C_1; clear hM1 hs1; clear hL) | (go_at_call 30; (with_reducible show Calls _ _ _ w2 _); refine (awake23 w2).mono ?_; rintro e w3 ⟨rfl, hL⟩; have hM3 : Below N w w3 := below_more hM2 hL hs2; have hs3 : N ≤ w3.heap.size := Nat.le_trans hs2 (hL).size; have E_3 := Lib.hid (E_2.out.below hL); clear E_2; have C_3 := Lib.hid (C_2.out.under hL); clear C_2; clear hM2 hs2; clear hL))
  go_ret
  exact ⟨rfl, by first | exact hM3 | (rw [HN.out]; exact hM3)⟩
set_option maxHeartbeats 12800000 in
set_option maxRecDepth 100000 in
theorem AA_f1 (vk ve : Value) (key : List UInt8) (z : Int) (m l : List UInt8) (w : World) (hE : Et w) (hk : SlB w vk key) (hm : m.length = 16) (he : SlB w ve l) (b0 : key.length ≤ 100) (b1 : ¬ l.length ≤ 200) : Calls Tryz.prog 7 #[vk, .agg (ch z m), ve] w fun e w' => e = .returned (.bool true) ∧ Below w.heap.size w w' := by
  obtain ⟨N, hN⟩ : ∃ N, w.heap.size = N := ⟨_, rfl⟩
  have HN := Lib.hid hN
  have HM := Lib.hid hm
  obtain ⟨LK, hL⟩ : ∃ L, key.length = L := ⟨_, rfl⟩
  obtain ⟨Ak, ck, rfl, hck⟩ := hk.formc hL
  rw [hL] at b0
  obtain ⟨LR, hLR⟩ : ∃ L, l.length = L := ⟨_, rfl⟩
  obtain ⟨Ar, cr, rfl, hcr⟩ := he.formc hLR
  try rw [hLR] at b1
  have i0 : decide ((100 : Int) < (LK : Int)) = false := by simp; omega
  have i1 : decide ((200 : Int) < (LR : Int)) = true := by simp; omega
  have hM0 : Below N w w := Below.refl _ _
  have hs0 : N ≤ w.heap.size := by omega
  have E_0 := Lib.hid (hE)
  clear hE
  go_enter Tryz.func7, Tryz.ntmps7
  go_wp2_with (first | ((with_reducible show wpList _ _ _ _ _ w); refine box_ch (w := w) rfl 55 _ rfl z m (by rfl) ?_; intro u1 hA0 hG0 hz0; have hL : Below w.heap.size w u1 := below_none (Below.refl _ _) (Nat.le_refl _) hG0; rw [hN] at hA0 ⊢; clear hG0 hz0; have hM1 : Below N w u1 := below_more hM0 hL hs0; have hs1 : N ≤ u1.heap.size := Nat.le_trans hs0 (hL).size; have E_1 := Lib.hid (E_0.out.below hL); clear E_0; clear hM0 hs0; have C_1 := Lib.hid (hA0); clear hL hA0) | (go_at_call 30; (with_reducible show Calls _ _ _ u1 _); refine (awake23 u1).mono ?_; rintro e w2 ⟨rfl, hL⟩; have hM2 : Below N w w2 := below_more hM1 hL hs1; have hs2 : N ≤ w2.heap.size := Nat.le_trans hs1 (hL).size; have E_2 := Lib.hid (E_1.out.below hL); clear E_1; have C_2 := Lib.hid (C_1.out.under hL); clear C_1; clear hM1 hs1; clear hL) | (go_at_call 30; (with_reducible show Calls _ _ _ w2 _); refine (awake23 w2).mono ?_; rintro e w3 ⟨rfl, hL⟩; have hM3 : Below N w w3 := below_more hM2 hL hs2; have hs3 : N ≤ w3.heap.size := Nat.le_trans hs2 (hL).size; have E_3 := Lib.hid (E_2.out.below hL); clear E_2; have C_3 := Lib.hid (C_2.out.under hL); clear C_2; clear hM2 hs2; clear hL))
  go_ret
  exact ⟨rfl, by first | exact hM3 | (rw [HN.out]; exact hM3)⟩
set_option maxHeartbeats 12800000 in
set_option maxRecDepth 100000 in
theorem AA_f2 (vk ve : Value) (key : List UInt8) (z : Int) (m l : List UInt8) (w : World) (hE : Et w) (hk : SlB w vk key) (hm : m.length = 16) (he : SlB w ve l) (b0 : key.length ≤ 100) (b1 : l.length ≤ 200) (r0 : ¬ 0 ≤ z) : Calls Tryz.prog 7 #[vk, .agg (ch z m), ve] w fun e w' => e = .returned (.bool true) ∧ Below w.heap.size w w' := by
  obtain ⟨N, hN⟩ : ∃ N, w.heap.size = N := ⟨_, rfl⟩
  have HN := Lib.hid hN
  have HM := Lib.hid hm
  obtain ⟨LK, hL⟩ : ∃ L, key.length = L := ⟨_, rfl⟩
  obtain ⟨Ak, ck, rfl, hck⟩ := hk.formc hL
  rw [hL] at b0
  obtain ⟨LR, hLR⟩ : ∃ L, l.length = L := ⟨_, rfl⟩
  obtain ⟨Ar, cr, rfl, hcr⟩ := he.formc hLR
  try rw [hLR] at b1
  have i0 : decide ((100 : Int) < (LK : Int)) = false := by simp; omega
  have i1 : decide ((200 : Int) < (LR : Int)) = false := by simp; omega
  have R0 := Lib.hid r0
  have hM0 : Below N w w := Below.refl _ _
  have hs0 : N ≤ w.heap.size := by omega
  have E_0 := Lib.hid (hE)
  clear hE
  go_enter Tryz.func7, Tryz.ntmps7
  go_wp2_with (first | ((with_reducible show wpList _ _ _ _ _ w); refine box_ch (w := w) rfl 55 _ rfl z m (by rfl) ?_; intro u1 hA0 hG0 hz0; have hL : Below w.heap.size w u1 := below_none (Below.refl _ _) (Nat.le_refl _) hG0; rw [hN] at hA0 ⊢; clear hG0 hz0; have hM1 : Below N w u1 := below_more hM0 hL hs0; have hs1 : N ≤ u1.heap.size := Nat.le_trans hs0 (hL).size; have E_1 := Lib.hid (E_0.out.below hL); clear E_0; clear hM0 hs0; have C_1 := Lib.hid (hA0); clear hL hA0) | (go_at_call 30; (with_reducible show Calls _ _ _ u1 _); refine (awake23 u1).mono ?_; rintro e w2 ⟨rfl, hL⟩; have hM2 : Below N w w2 := below_more hM1 hL hs1; have hs2 : N ≤ w2.heap.size := Nat.le_trans hs1 (hL).size; have E_2 := Lib.hid (E_1.out.below hL); clear E_1; have C_2 := Lib.hid (C_1.out.under hL); clear C_1; clear hM1 hs1; clear hL) | ((with_reducible show wpList _ _ _ _ _ w2); refine load_ch (w := w2) (by rfl) _ rfl N 55 z m (by rfl) C_2.out HM.out ?_) | (go_at_call 31; (with_reducible show Calls _ _ _ w2 _); refine (Right_low z m w2 (by have := R0.out; omega)).mono ?_; rintro e w3 ⟨rfl, hL⟩; have hM3 : Below N w w3 := below_more hM2 hL hs2; have hs3 : N ≤ w3.heap.size := Nat.le_trans hs2 (hL).size; have E_3 := Lib.hid (E_2.out.below hL); clear E_2; have C_3 := Lib.hid (C_2.out.under hL); clear C_2; clear hM2 hs2; clear hL) | (go_at_call 30; (with_reducible show Calls _ _ _ w3 _); refine (awake23 w3).mono ?_; rintro e w4 ⟨rfl, hL⟩; have hM4 : Below N w w4 := below_more hM3 hL hs3; have hs4 : N ≤ w4.heap.size := Nat.le_trans hs3 (hL).size; have E_4 := Lib.hid (E_3.out.below hL); clear E_3; have C_4 := Lib.hid (C_3.out.under hL); clear C_3; clear hM3 hs3; clear hL))
  go_ret
  exact ⟨rfl, by first | exact hM4 | (rw [HN.out]; exact hM4)⟩
set_option maxHeartbeats 12800000 in
set_option maxRecDepth 100000 in
theorem AA_f3 (vk ve : Value) (key : List UInt8) (z : Int) (m l : List UInt8) (w : World) (hE : Et w) (hk : SlB w vk key) (hm : m.length = 16) (he : SlB w ve l) (b0 : key.length ≤ 100) (b1 : l.length ≤ 200) (r0 : 0 ≤ z) (r1 : ¬ z ≤ 4294967295) : Calls Tryz.prog 7 #[vk, .agg (ch z m), ve] w fun e w' => e = .returned (.bool true) ∧ Below w.heap.size w w' := by
  obtain ⟨N, hN⟩ : ∃ N, w.heap.size = N := ⟨_, rfl⟩
  have HN := Lib.hid hN
  have HM := Lib.hid hm
  obtain ⟨LK, hL⟩ : ∃ L, key.length = L := ⟨_, rfl⟩
  obtain ⟨Ak, ck, rfl, hck⟩ := hk.formc hL
  rw [hL] at b0
  obtain ⟨LR, hLR⟩ : ∃ L, l.length = L := ⟨_, rfl⟩
  obtain ⟨Ar, cr, rfl, hcr⟩ := he.formc hLR
  try rw [hLR] at b1
  have i0 : decide ((100 : Int) < (LK : Int)) = false := by simp; omega
  have i1 : decide ((200 : Int) < (LR : Int)) = false := by simp; omega
  have R0 := Lib.hid r0
  have R1 := Lib.hid r1
  have hM0 : Below N w w := Below.refl _ _
  have hs0 : N ≤ w.heap.size := by omega
  have E_0 := Lib.hid (hE)
  clear hE
  go_enter Tryz.func7, Tryz.ntmps7
  go_wp2_with (first | ((with_reducible show wpList _ _ _ _ _ w); refine box_ch (w := w) rfl 55 _ rfl z m (by rfl) ?_; intro u1 hA0 hG0 hz0; have hL : Below w.heap.size w u1 := below_none (Below.refl _ _) (Nat.le_refl _) hG0; rw [hN] at hA0 ⊢; clear hG0 hz0; have hM1 : Below N w u1 := below_more hM0 hL hs0; have hs1 : N ≤ u1.heap.size := Nat.le_trans hs0 (hL).size; have E_1 := Lib.hid (E_0.out.below hL); clear E_0; clear hM0 hs0; have C_1 := Lib.hid (hA0); clear hL hA0) | (go_at_call 30; (with_reducible show Calls _ _ _ u1 _); refine (awake23 u1).mono ?_; rintro e w2 ⟨rfl, hL⟩; have hM2 : Below N w w2 := below_more hM1 hL hs1; have hs2 : N ≤ w2.heap.size := Nat.le_trans hs1 (hL).size; have E_2 := Lib.hid (E_1.out.below hL); clear E_1; have C_2 := Lib.hid (C_1.out.under hL); clear C_1; clear hM1 hs1; clear hL) | ((with_reducible show wpList _ _ _ _ _ w2); refine load_ch (w := w2) (by rfl) _ rfl N 55 z m (by rfl) C_2.out HM.out ?_) | (go_at_call 31; (with_reducible show Calls _ _ _ w2 _); refine (Right_high z m w2 (by have := R0.out; omega) (by have := R1.out; omega)).mono ?_; rintro e w3 ⟨rfl, hL⟩; have hM3 : Below N w w3 := below_more hM2 hL hs2; have hs3 : N ≤ w3.heap.size := Nat.le_trans hs2 (hL).size; have E_3 := Lib.hid (E_2.out.below hL); clear E_2; have C_3 := Lib.hid (C_2.out.under hL); clear C_2; clear hM2 hs2; clear hL) | (go_at_call 30; (with_reducible show Calls _ _ _ w3 _); refine (awake23 w3).mono ?_; rintro e w4 ⟨rfl, hL⟩; have hM4 : Below N w w4 := below_more hM3 hL hs3; have hs4 : N ≤ w4.heap.size := Nat.le_trans hs3 (hL).size; have E_4 := Lib.hid (E_3.out.below hL); clear E_3; have C_4 := Lib.hid (C_3.out.under hL); clear C_3; clear hM3 hs3; clear hL))
  go_ret
  exact ⟨rfl, by first | exact hM4 | (rw [HN.out]; exact hM4)⟩
set_option maxHeartbeats 12800000 in
set_option maxRecDepth 100000 in
theorem AA_main (vk ve : Value) (key : List UInt8) (n : Nat) (m l : List UInt8) (z2 why : Int) (m2 : List UInt8) (q : Value) (w : World) (hE : Et w) (hk : SlB w vk key) (hm : m.length = 16) (hm2 : m2.length = 16) (he : SlB w ve l) (b0 : key.length ≤ 100) (b1 : l.length ≤ 200) (nn : n ≤ 4294967295)
    (hx : ∀ w', Below w.heap.size w w' → Calls Tryz.prog 38 #[vk, .agg (ch (n : Int) m), ve] w' fun e w'' => e = .returned (.tuple #[.agg (ch z2 m2), q]) ∧ Below w'.heap.size w' w'')
    (hr : ∀ w', Below w.heap.size w w' → Calls Tryz.prog 39 #[vk, .agg (ch (n : Int) m), ve] w' fun e w'' => e = .returned (.tuple #[.agg (ch z2 m2), .int .i64 why]) ∧ Below w'.heap.size w' w'')
    (hc : ∀ w', Et w' → Calls Tryz.prog 19 #[q] w' fun e w'' => e = .returned (.int .i64 why) ∧ Below w'.heap.size w' w'') : Calls Tryz.prog 7 #[vk, .agg (ch n m), ve] w fun e w' => e = .returned (.bool true) ∧ Below w.heap.size w w' := by
  obtain ⟨N, hN⟩ : ∃ N, w.heap.size = N := ⟨_, rfl⟩
  have HN := Lib.hid hN
  have HM := Lib.hid hm
  obtain ⟨LK, hL⟩ : ∃ L, key.length = L := ⟨_, rfl⟩
  obtain ⟨Ak, ck, rfl, hck⟩ := hk.formc hL
  rw [hL] at b0
  obtain ⟨LR, hLR⟩ : ∃ L, l.length = L := ⟨_, rfl⟩
  obtain ⟨Ar, cr, rfl, hcr⟩ := he.formc hLR
  try rw [hLR] at b1
  have HX := Lib.hid (show ∀ w', Below N w w' → _ from fun w' h => hx w' (by rw [hN]; exact h))
  have HR := Lib.hid (show ∀ w', Below N w w' → _ from fun w' h => hr w' (by rw [hN]; exact h))
  have HC := Lib.hid hc
  have HM2 := Lib.hid hm2
  have R0 := Lib.hid (show 0 ≤ (n : Int) by omega)
  have R1 := Lib.hid (show (n : Int) ≤ 4294967295 by omega)
  have i0 : decide ((100 : Int) < (LK : Int)) = false := by simp; omega
  have i1 : decide ((200 : Int) < (LR : Int)) = false := by simp; omega
  clear hx hr hc hm2 b0 b1 nn hm hk hL he hLR
  have hM0 : Below N w w := Below.refl _ _
  have hs0 : N ≤ w.heap.size := by omega
  have E_0 := Lib.hid (hE)
  clear hE
  go_enter Tryz.func7, Tryz.ntmps7
  go_wp2_with (first | ((with_reducible show wpList _ _ _ _ _ w); refine box_ch (w := w) rfl 55 _ rfl (n : Int) m (by rfl) ?_; intro u1 hA0 hG0 hz0; have hL : Below w.heap.size w u1 := below_none (Below.refl _ _) (Nat.le_refl _) hG0; rw [hN] at hA0 ⊢; clear hG0 hz0; have hM1 : Below N w u1 := below_more hM0 hL hs0; have hs1 : N ≤ u1.heap.size := Nat.le_trans hs0 (hL).size; have E_1 := Lib.hid (E_0.out.below hL); clear E_0; clear hM0 hs0; have C_1 := Lib.hid (hA0); clear hL hA0) | (go_at_call 30; (with_reducible show Calls _ _ _ u1 _); refine (awake23 u1).mono ?_; rintro e w2 ⟨rfl, hL⟩; have hM2 : Below N w w2 := below_more hM1 hL hs1; have hs2 : N ≤ w2.heap.size := Nat.le_trans hs1 (hL).size; have E_2 := Lib.hid (E_1.out.below hL); clear E_1; have C_2 := Lib.hid (C_1.out.under hL); clear C_1; clear hM1 hs1; clear hL) | ((with_reducible show wpList _ _ _ _ _ w2); refine load_ch (w := w2) (by rfl) _ rfl N 55 (n : Int) m (by rfl) C_2.out HM.out ?_) | (go_at_call 31; (with_reducible show Calls _ _ _ w2 _); refine (Right_yes n m w2 (by have := R0.out; omega) (by have := R1.out; omega)).mono ?_; rintro e w3 ⟨rfl, hL⟩; have hM3 : Below N w w3 := below_more hM2 hL hs2; have hs3 : N ≤ w3.heap.size := Nat.le_trans hs2 (hL).size; have E_3 := Lib.hid (E_2.out.below hL); clear E_2; have C_3 := Lib.hid (C_2.out.under hL); clear C_2; clear hM2 hs2; clear hL) | ((with_reducible show wpList _ _ _ _ _ w3); refine load_ch (w := w3) (by rfl) _ rfl N 55 (n : Int) m (by rfl) C_3.out HM.out ?_) | (go_at_call 38; (with_reducible show Calls _ _ _ w3 _); refine (HX.out w3 hM3).mono ?_; rintro e w4c ⟨rfl, hLc⟩) | ((with_reducible show wpList _ _ _ _ _ w4c); refine alloc_row (w := w4c) rfl 55 rfl (.agg (ch 0 (List.replicate 16 0))) 17 (fun _ => by kernel_rfl) (by kernel_rfl) ?_; intro w4a hRa _ hGa hza) | ((with_reducible show wpList _ _ _ _ _ w4a); refine store_ch (w := w4a) rfl 55 _ _ rfl w4c.heap.size 55 z2 m2 (by rfl) (by rfl) hRa HM2.out (by kernel_rfl) ?_; intro w4 hBb hGb hzb; have hL9 : Below w4c.heap.size w4c w4 := below_new (below_none (Below.refl _ _) (Nat.le_refl _) hGa) hGa.size hGb (Nat.le_refl _); have hL : Below w3.heap.size w3 w4 := below_more hLc hL9 hLc.size; obtain ⟨Gd, eGx⟩ : ∃ g, w4c.heap.size = g := ⟨_, rfl⟩; have hgB : ChB w4 Gd 55 z2 m2 := (by rw [← eGx]; exact hBb); have HLGd := Lib.hid (show N ≤ Gd from (by rw [← eGx]; exact Nat.le_trans hs3 hLc.size)); rw [eGx]; clear hRa hGa hza hBb hGb hzb hLc eGx hL9; have hM4 : Below N w w4 := below_more hM3 hL hs3; have hs4 : N ≤ w4.heap.size := Nat.le_trans hs3 (hL).size; have E_4 := Lib.hid (E_3.out.below hL); clear E_3; have C_4 := Lib.hid (C_3.out.under hL); clear C_3; clear hM3 hs3; have d_4 := Lib.hid (hgB); clear hL hgB) | ((with_reducible show wpList _ _ _ _ _ w4); refine load_ch (w := w4) (by rfl) _ rfl N 55 (n : Int) m (by rfl) C_4.out HM.out ?_) | (go_at_call 39; (with_reducible show Calls _ _ _ w4 _); refine (HR.out w4 hM4).mono ?_; rintro e w5c ⟨rfl, hLc⟩) | ((with_reducible show wpList _ _ _ _ _ w5c); refine alloc_row (w := w5c) rfl 55 rfl (.agg (ch 0 (List.replicate 16 0))) 17 (fun _ => by kernel_rfl) (by kernel_rfl) ?_; intro w5a hRa _ hGa hza) | ((with_reducible show wpList _ _ _ _ _ w5a); refine store_ch (w := w5a) rfl 55 _ _ rfl w5c.heap.size 55 z2 m2 (by rfl) (by rfl) hRa HM2.out (by kernel_rfl) ?_; intro w5 hBb hGb hzb; have hL9 : Below w5c.heap.size w5c w5 := below_new (below_none (Below.refl _ _) (Nat.le_refl _) hGa) hGa.size hGb (Nat.le_refl _); have hL : Below w4.heap.size w4 w5 := below_more hLc hL9 hLc.size; obtain ⟨Gx, eGx⟩ : ∃ g, w5c.heap.size = g := ⟨_, rfl⟩; have hgB : ChB w5 Gx 55 z2 m2 := (by rw [← eGx]; exact hBb); have HLGx := Lib.hid (show N ≤ Gx from (by rw [← eGx]; exact Nat.le_trans hs4 hLc.size)); rw [eGx]; clear hRa hGa hza hBb hGb hzb hLc eGx hL9; have hM5 : Below N w w5 := below_more hM4 hL hs4; have hs5 : N ≤ w5.heap.size := Nat.le_trans hs4 (hL).size; have E_5 := Lib.hid (E_4.out.below hL); clear E_4; have C_5 := Lib.hid (C_4.out.under hL); clear C_4; have d_5 := Lib.hid (d_4.out.under hL); clear d_4; clear hM4 hs4; have x_5 := Lib.hid (hgB); clear hL hgB) | ((with_reducible show wpList _ _ _ _ _ w5); refine load_ch (w := w5) (by rfl) _ rfl Gd 55 z2 m2 (by rfl) d_5.out HM2.out ?_) | ((with_reducible show wpList _ _ _ _ _ w5); refine load_ch (w := w5) (by rfl) _ rfl Gx 55 z2 m2 (by rfl) x_5.out HM2.out ?_) | ((with_reducible show wpList _ _ _ _ _ w5); refine op_eqlc (w := w5) (by rfl) cht _ _ _ rfl (ch z2 m2) (ch z2 m2) (by rfl) (by rfl) (by kernel_rfl) true (fun w => (run_eql_ch w z2 z2 m2 m2 HM2.out HM2.out).trans (by simp)) ?_) | (go_at_call 19; (with_reducible show Calls _ _ _ w5 _); refine (HC.out w5 E_5.out).mono ?_; rintro e w6 ⟨rfl, hL⟩; have hM6 : Below N w w6 := below_more hM5 hL hs5; have hs6 : N ≤ w6.heap.size := Nat.le_trans hs5 (hL).size; have E_6 := Lib.hid (E_5.out.below hL); clear E_5; have C_6 := Lib.hid (C_5.out.under hL); clear C_5; have d_6 := Lib.hid (d_5.out.under hL); clear d_5; have x_6 := Lib.hid (x_5.out.under hL); clear x_5; clear hM5 hs5; clear hL))
  go_ret
  exact ⟨rfl, by first | exact hM6 | (rw [HN.out]; exact hM6)⟩
theorem rec_cases (l : List UInt8) : (∃ b1 b2 b3 b4 m2, l = 5 :: b1 :: b2 :: b3 :: b4 :: m2 ∧ m2.length = 16) ∨ (∃ t, l = 6 :: t ∧ 1 ≤ t.length ∧ t.length ≤ 60) ∨ ((l.length = 21 → g8 l 0 ≠ 5) ∧ (l.length < 2 ∨ 61 < l.length ∨ g8 l 0 ≠ 6)) := by
  by_cases h : l.length = 21 ∧ g8 l 0 = 5
  · obtain ⟨h1, h2⟩ := h
    match l, h1, h2 with
    | b :: b1 :: b2 :: b3 :: b4 :: m2, h1, h2 =>
      have hb : b = 5 := h2
      subst hb
      exact .inl ⟨b1, b2, b3, b4, m2, rfl, by simpa using h1⟩
  · by_cases h6 : 2 ≤ l.length ∧ l.length ≤ 61 ∧ g8 l 0 = 6
    · obtain ⟨h1, h2, h3⟩ := h6
      match l, h1, h2, h3 with
      | b :: t, h1, h2, h3 =>
        have hb : b = 6 := h3
        subst hb
        rw [List.length_cons] at h1 h2
        exact .inr (.inl ⟨t, rfl, by omega, by omega⟩)
    · refine .inr (.inr ⟨fun h1 h2 => h ⟨h1, h2⟩, ?_⟩)
      by_cases h1 : l.length < 2
      · exact .inl h1
      by_cases h2 : 61 < l.length
      · exact .inr (.inl h2)
      · exact .inr (.inr fun h3 => h6 ⟨by omega, by omega, h3⟩)
theorem Apply_refused (vk ve : Value) (z : Int) (m l : List UInt8) (w : World) (he : SlB w ve l) (hl : l.length ≤ 1000) (hm : m.length = 16) (h5 : l.length = 21 → g8 l 0 ≠ 5) (h6 : l.length < 2 ∨ 61 < l.length ∨ g8 l 0 ≠ 6) :
    Calls Tryz.prog 38 #[vk, .agg (ch z m), ve] w fun e w' => e = .returned (.tuple #[.agg (ch z m), .iface 107 (.int .i64 6)]) ∧ Below w.heap.size w w' := by
  by_cases h : 0 < l.length → g8 l 0 ≠ 6
  · exact Apply_bad vk ve z m l w he hl hm h5 h
  · have h0 : 0 < l.length := by
      rcases Nat.eq_zero_or_pos l.length with e | e
      · exact absurd (fun h' => absurd h' (by omega)) h
      · exact e
    have h1 : g8 l 0 = 6 := Classical.byContradiction fun hc => h (fun _ => hc)
    match l, h0, h1 with
    | b :: t, h0, h1 =>
      have hb : b = 6 := h1
      subst hb
      rw [List.length_cons] at h6 hl
      refine Apply_unnoted vk ve z m t w he (by omega) hm ?_
      rcases h6 with h6 | h6 | h6
      · exact .inl (by omega)
      · exact .inr (by omega)
      · exact absurd h1 h6
theorem rApply_refused (vk ve : Value) (z : Int) (m l : List UInt8) (w : World) (he : SlB w ve l) (hm : m.length = 16) (h5 : l.length = 21 → g8 l 0 ≠ 5) (h6 : l.length < 2 ∨ 61 < l.length ∨ g8 l 0 ≠ 6) :
    Calls Tryz.prog 39 #[vk, .agg (ch z m), ve] w fun e w' => e = .returned (.tuple #[.agg (ch z m), .int .i64 6]) ∧ Below w.heap.size w w' := by
  by_cases h1 : l.length < 2
  · exact rApply_short vk ve z m l w he hm h1
  by_cases h2 : 61 < l.length
  · exact rApply_long vk ve z m l w he hm h2
  have h7 : g8 l 0 ≠ 6 := by
    rcases h6 with h | h | h
    · exact absurd h h1
    · exact absurd h h2
    · exact h
  by_cases h3 : l.length = 21
  · exact rApply_other21 vk ve z m l w he hm h3 (h5 h3) h7
  · exact rApply_other vk ve z m l w he hm (by omega) (by omega) h3 h7
theorem AuditApplies_any (vk : Value) (key : List UInt8) (z : Int) (m : List UInt8) (ve : Value) (l : List UInt8) (w : World) (hE : Et w) (hk : SlB w vk key) (hm : m.length = 16) (hz : (Lit.int .i64 z).wf = true) (he : SlB w ve l) : Calls Tryz.prog 7 #[vk, .agg (ch z m), ve] w fun e w' => e = .returned (.bool true) ∧ Below w.heap.size w w' := by
  by_cases b0 : key.length ≤ 100
  case neg => exact AA_f0 vk ve key z m l w hE hk hm he b0
  by_cases b1 : l.length ≤ 200
  case neg => exact AA_f1 vk ve key z m l w hE hk hm he b0 b1
  by_cases r0 : 0 ≤ z
  case neg => exact AA_f2 vk ve key z m l w hE hk hm he b0 b1 r0
  by_cases r1 : z ≤ 4294967295
  case neg => exact AA_f3 vk ve key z m l w hE hk hm he b0 b1 r0 r1
  obtain ⟨n, rfl⟩ : ∃ n : Nat, z = n := ⟨z.toNat, by omega⟩
  rcases rec_cases l with ⟨c1, c2, c3, c4, m2, rfl, hm2⟩ | ⟨t, rfl, h1, h2⟩ | ⟨h5, h6⟩
  · exact AA_main vk ve key n m _ _ 0 m2 .nilIface w hE hk hm hm2 he b0 b1 (by omega) (fun w' hw => Apply_save vk ve n m m2 c1 c2 c3 c4 w' (he.below hw) hm hm2) (fun w' hw => rApply_save vk ve n m m2 c1 c2 c3 c4 w' (he.below hw) hm hm2) (fun w' h => Code_nil w')
  · obtain ⟨z2, why, m2, q, hm2, g1, g2, g3⟩ := next_both vk key n m (bs t) hm (by omega) (by rw [bs_size]; omega)
    refine AA_main vk ve key n m _ z2 why m2 q w hE hk hm hm2 he b0 b1 (by omega) (fun w' hw => ?_) (fun w' hw => ?_) g3
    · exact Apply_note vk ve q n z2 m m2 t w' (he.below hw) hm hm2 h1 h2 fun w'' hw' => g1 w'' ((hk.below hw).below hw')
    · exact rApply_note vk ve (.int .i64 why) n z2 m m2 t w' (he.below hw) hm hm2 h1 h2 fun w'' hw' => g2 w'' ((hk.below hw).below hw')
  · exact AA_main vk ve key n m l n 6 m (.iface 107 (.int .i64 6)) w hE hk hm hm he b0 b1 (by omega) (fun w' hw => Apply_refused vk ve n m l w' (he.below hw) (by omega) hm h5 h6) (fun w' hw => rApply_refused vk ve n m l w' (he.below hw) hm h5 h6) (code_no 6)
end Go.Proofs.YtpfmhohldfnhmaaGreatDoor
set_option linter.unusedVariables false
set_option linter.unusedSimpArgs false
namespace Lk
open Go Go.RowKit
/-- a slice of whole numbers as it is read -/
def IsRow (k : IntKind) (w : World) (a : Option Addr) (len cap : Nat) (zs : List Int) : Prop :=
  (a = none ∧ len = 0 ∧ cap = 0 ∧ zs = []) ∨
  ∃ x, a = some x ∧ len ≤ cap ∧ cap ≤ maxLen ∧ zs.length = cap ∧ (∀ i, i < zs.length → w.cell? (x.add i) = some (.int k (zs.getD i 0))) ∧ ∀ n ∈ zs, (Lit.int k n).wf = true
theorem u8_of_wf {n : Int} (h : (Lit.int .u8 n).wf = true) : n = bv (UInt8.ofNat n.toNat) := by
  obtain ⟨a, rfl⟩ := open_u8 h
  unfold bv
  simp
theorem slB_of_row {w : World} {a : Option Addr} {len cap : Nat} {zs : List Int} (h : IsRow .u8 w a len cap zs) : ∃ l : List UInt8, l.length = len ∧ SlB w (.slice a len cap) l := by
  rcases h with ⟨rfl, rfl, rfl, rfl⟩ | ⟨x, rfl, h1, h2, h3, h4, h5⟩
  · exact ⟨[], rfl, none, 0, rfl, fun _ => rfl, Nat.le_refl _, Nat.zero_le _, fun h => by omega⟩
  · have hl : ((zs.take len).map fun z => UInt8.ofNat z.toNat).length = len := by simp; omega
    refine ⟨(zs.take len).map fun z => UInt8.ofNat z.toNat, hl, some x, cap, by rw [hl], fun h => (by cases h), by rw [hl]; exact h1, h2, fun hc => ?_⟩
    have hx : x.spot = none := by
      have := h4 0 (by omega)
      have e : x.add 0 = x := by simp [Addr.add]
      rw [e] at this
      unfold World.cell? at this
      split at this
      · split at this
        · cases this
        · rename_i hs; simpa using hs
      · cases this
    obtain ⟨g, o, s⟩ := x
    cases hx
    refine ⟨g, o, rfl, fun k hk => ?_⟩
    rw [hl] at hk
    have hc := h4 k (by omega)
    have ea : (⟨g, o, none⟩ : Addr).add k = ⟨g, o + k, none⟩ := by unfold Addr.add; split <;> simp_all
    rw [ea] at hc
    rw [hc]
    have hm : zs.getD k 0 ∈ zs := by
      have : k < zs.length := by omega
      simp [this]
    have := u8_of_wf (h5 _ hm)
    have e : g8 ((zs.take len).map fun z => UInt8.ofNat z.toNat) k = UInt8.ofNat (zs.getD k 0).toNat := by
      unfold g8
      have : k < zs.length := by omega
      simp [List.getElem?_take, hk, this]
    rw [e, ← this]
section
variable {P : Program} {H : Type} {enc : TypeId × Value → H}
theorem open_slice_u8 {t e : TypeId} {W : World} {a : Option Addr} {len cap : Nat} {d : DataW H} {ps : List MemPlace} (ht : P.underlying t = some (.slice e)) (he : P.underlying e = some (.int .u8)) (hc : P.cellsOf e = 1)
    (h : DataW.Trod enc P W 0 (fun _ => true) true t (.slice a len cap) d ps) : ∃ l : List UInt8, l.length = len ∧ SlB W (.slice a len cap) l := by
  obtain ⟨zs, hz⟩ : ∃ zs, IsRow .u8 W a len cap zs := by
    obtain ⟨fuel, hf⟩ := h
    rcases Go.ChangeShapes.open_ints ht he hc hf with ⟨hcs, _⟩ | ⟨x, l, c, zs, hcs, _, hl, hm, hz, _, hcell, hwz⟩
    · simp [Value.cells] at hcs
      obtain ⟨rfl, rfl, rfl⟩ := hcs
      exact ⟨[], .inl ⟨rfl, rfl, rfl, rfl⟩⟩
    · simp [Value.cells] at hcs
      obtain ⟨rfl, rfl, rfl⟩ := hcs
      exact ⟨zs, .inr ⟨_, rfl, hl, hm, by simpa using hz, hcell, hwz⟩⟩
  exact slB_of_row hz
/-- an array of bytes -/
theorem open_arr_u8 {t e n : Nat} {W : World} {r : Reach} {base : Nat} {v : Value} (ht : P.underlying t = some (.array n e)) (he : P.underlying e = some (.int .u8)) (hc : P.cellsOf t = n) (hct : P.cellTypes P.depth t = some (List.replicate n e)) (hn : 0 < n)
    (h : Value.okWide P W r base t v) : ∃ l : List UInt8, l.length = n ∧ v = .agg (Bs l) := by
  simp only [Value.okWide, ht] at h
  obtain ⟨cs, rfl, hsz, ts, hts, _, hcell⟩ := h
  rw [hct] at hts
  cases hts
  rw [hc] at hsz
  refine ⟨cs.toList.map fun v => match v with | .int _ z => UInt8.ofNat z.toNat | _ => 0, by simp [hsz], ?_⟩
  congr 1
  apply Array.ext
  · simp [Bs]
  · intro i h1 h2
    obtain ⟨u, hu, hok⟩ := hcell i cs[i] (by simp [h1])
    have hue : u = e := by
      rw [List.getElem?_replicate] at hu
      split at hu
      · cases hu; rfl
      · cases hu
    subst hue
    simp only [Cell.okWide, he] at hok
    simp only [Bs, List.map_map, List.getElem_toArray, List.getElem_map, Function.comp_apply, Array.getElem_toList]
    cases hv : cs[i] with
    | int k z =>
      rw [hv] at hok
      simp only [Cell.ok, he] at hok
      obtain ⟨rfl, hw⟩ := hok
      have hw' : (Lit.int .u8 z).wf = true := by
        unfold Lit.wf
        rw [Bool.and_eq_true]
        exact ⟨decide_eq_true hw.1, decide_eq_true hw.2⟩
      simp only [← u8_of_wf hw']
    | _ => rw [hv] at hok; simp [Cell.ok, he] at hok
end
end Lk
set_option linter.unusedVariables false
set_option linter.unusedSimpArgs false
namespace Lk
open Go Go.RowKit Go.ChangeShapes Go.WideShapes
theorem bl_of (cs : List Value) (h : ∀ v ∈ cs, ∃ z, v = .int .u8 z ∧ (Lit.int .u8 z).wf = true) : ∃ l : List UInt8, l.length = cs.length ∧ cs = Bl l := by
  induction cs with
  | nil => exact ⟨[], rfl, rfl⟩
  | cons v t ih =>
    obtain ⟨l, hl, rfl⟩ := ih fun u hu => h u (List.mem_cons_of_mem _ hu)
    obtain ⟨z, rfl, hz⟩ := h v List.mem_cons_self
    refine ⟨UInt8.ofNat z.toNat :: l, by simpa using hl, ?_⟩
    unfold Bl
    rw [List.map_cons, ← u8_of_wf hz]
theorem wf_of_has {k : IntKind} {z : Int} (h : k.has z) : (Lit.int k z).wf = true := by
  unfold Lit.wf
  rw [Bool.and_eq_true]
  exact ⟨decide_eq_true h.1, decide_eq_true h.2⟩
section
variable {P : Program}
theorem open_row {t : TypeId} {ts : List TypeId} {W : World} {r : Reach} {base : Nat} {v : Value} (ht : (∃ f, P.underlying t = some (.struct f)) ∨ ∃ n e, P.underlying t = some (.array n e)) (hct : P.cellTypes P.depth t = some ts) (hc : P.cellsOf t = ts.length)
    (h : Value.okWide P W r base t v) : ∃ cs : List Value, v = .agg cs.toArray ∧ cs.length = ts.length ∧ ∀ (i : Nat) (u : TypeId) (x : Value), ts[i]? = some u → cs[i]? = some x → Cell.okWide P W r base u x := by
  have h' : ∃ cs, v = .agg cs ∧ cs.size = P.cellsOf t ∧ Row.okWide P W r base t cs := by
    rcases ht with ⟨f, ht⟩ | ⟨n, e, ht⟩ <;> simpa only [Value.okWide, ht] using h
  obtain ⟨cs, rfl, hsz, ts', hts, _, hcell⟩ := h'
  rw [hct] at hts
  cases hts
  refine ⟨cs.toList, rfl, by simpa [hc] using hsz, fun i u x hu hx => ?_⟩
  obtain ⟨u', hu', hok⟩ := hcell i x (by simpa using hx)
  have hi := (List.getElem?_eq_some_iff.1 hu).1
  rw [Nat.mod_eq_of_lt hi, hu] at hu'
  cases hu'
  exact hok
theorem cell_int {t : TypeId} {k : IntKind} {W : World} {r : Reach} {base : Nat} {v : Value} (ht : P.underlying t = some (.int k)) (h : Cell.okWide P W r base t v) : ∃ z, v = .int k z ∧ (Lit.int k z).wf = true := by
  simp only [Cell.okWide, ht] at h
  cases v with
  | int k' z =>
    simp only [Cell.ok, ht] at h
    obtain ⟨rfl, hw⟩ := h
    exact ⟨z, rfl, wf_of_has hw⟩
  | _ => simp [Cell.ok, ht] at h
theorem cell_bool {t : TypeId} {W : World} {r : Reach} {base : Nat} {v : Value} (ht : P.underlying t = some .bool) (h : Cell.okWide P W r base t v) : ∃ b, v = .bool b := by
  simp only [Cell.okWide, ht] at h
  cases v with
  | bool b => exact ⟨b, rfl⟩
  | _ => simp [Cell.ok, ht] at h
theorem u8_run {t : TypeId} {W : World} {r : Reach} {base : Nat} (ht : P.underlying t = some (.int .u8)) {cs : List Value} {ts : List TypeId} (hl : cs.length = ts.length) (h : ∀ (i : Nat) (u : TypeId) (x : Value), ts[i]? = some u → cs[i]? = some x → Cell.okWide P W r base u x) (o n : Nat) (hts : (ts.drop o).take n = List.replicate n t) : ∃ l : List UInt8, l.length = n ∧ (cs.drop o).take n = Bl l := by
  have hn : ((ts.drop o).take n).length = n := by rw [hts, List.length_replicate]
  have hlen : ((cs.drop o).take n).length = n := by
    rw [List.length_take, List.length_drop] at hn ⊢
    omega
  obtain ⟨l, h1, h2⟩ := bl_of ((cs.drop o).take n) fun v hv => by
    obtain ⟨i, hi, rfl⟩ := List.mem_iff_getElem.1 hv
    have hi' : i < n := by omega
    have e1 : cs[o + i]? = some ((cs.drop o).take n)[i] := by
      rw [← List.getElem?_drop, ← List.getElem?_take_of_lt hi', List.getElem?_eq_getElem hi]
    have e2 : ts[o + i]? = some t := by
      rw [← List.getElem?_drop, ← List.getElem?_take_of_lt hi', hts, List.getElem?_replicate, if_pos hi']
    exact cell_int ht (h _ _ _ e2 e1)
  exact ⟨l, by rw [h1, hlen], h2⟩
theorem getq_at {α : Type} (cs : List α) (i : Nat) (h : i < cs.length) : ∃ x, cs[i]? = some x := ⟨_, List.getElem?_eq_getElem h⟩
end
end Lk
set_option linter.unusedVariables false
set_option linter.unusedSimpArgs false
namespace Go.Proofs.YtpfmhohldfnhmaaGreatDoor
open Go Go.RowKit Lk Go.ChangeShapes Go.WideShapes
theorem cht_cells : Tryz.prog.cellTypes Tryz.prog.depth cht = some (3 :: List.replicate 16 5) := by kernel_rfl
set_option maxRecDepth 100000 in
theorem open_chain {W : World} {r : Reach} {base : Nat} {v : Value} (h : Value.okWide Tryz.prog W r base cht v) : ∃ (z : Int) (m : List UInt8), v = .agg (ch z m) ∧ m.length = 16 ∧ (Lit.int .i64 z).wf = true := by
  obtain ⟨cs, rfl, hl, hc⟩ := open_row (.inl cht_d) cht_cells (by kernel_rfl) h
  have hl' : cs.length = 17 := hl
  obtain ⟨m, hm, em⟩ := u8_run (t := 5) (by kernel_rfl) hl hc 1 16 (by decide)
  obtain ⟨x0, g0⟩ := getq_at cs 0 (by omega)
  obtain ⟨z, rfl, hz⟩ := cell_int (t := 3) (k := .i64) (by kernel_rfl) (hc 0 _ _ (by decide) g0)
  refine ⟨z, m, ?_, hm, hz⟩
  have e1 : (cs.drop 1).take 16 = cs.drop 1 := List.take_of_length_le (by rw [List.length_drop]; omega)
  rw [e1] at em
  have e2 : cs = .int .i64 z :: cs.drop 1 := by
    cases cs with
    | nil => simp at hl'
    | cons x t => simp at g0; rw [g0]; rfl
  rw [e2, em]
  simp [ch, Bs, Bl]
end Go.Proofs.YtpfmhohldfnhmaaGreatDoor
set_option linter.unusedVariables false
namespace Go.Proofs.YtpfmhohldfnhmaaGreatDoor
open Go.ChangeShapes Go.WideShapes Go.RowKit
theorem ownKnobNone : ownKnob Tryz.prog.godebug = none := by kernel_rfl
theorem laidOutAll : laidOutB Tryz.prog = true := by kernel_rfl
theorem fct_laid : laidOutB Tryz.checked.prog = true := by kernel_rfl
theorem fct_maps : mapsRowed Tryz.checked.prog = true := by kernel_rfl
theorem fct_main : Tryz.pinned.checked.prog.mainIs = some (true, "3a05d988fa47357c235f95377bda5449c7939e0ad58df945c3a7c09d3fa33a44".toList) := by kernel_rfl
theorem fct_looks : true = Tryz.pinned.checked.prog.looks [] := by kernel_rfl
def laidList : List (String × DataW Unit) := [("errors.errorType", Rows.laid_errors_errorType)]
theorem et_g : Tryz.prog.globalNamed "errors.errorType" = some 0 := by kernel_rfl
theorem et_rt : (Tryz.prog.cutTypes.find? (·.1 == "internal/reflectlite.rtype")).map (·.2) = some 178 := by kernel_rfl
theorem et_row : ((List.range 260).filter fun t => Tryz.prog.rowNamed t [101, 114, 114, 111, 114]) = [29] := by kernel_rfl
theorem et_size : Tryz.prog.types.size = 260 := by kernel_rfl
theorem handle_of_laid {W : World} (h : laidMetH Tryz.prog laidList W) : Et W := by
  have h' : laidMet Tryz.prog [] W ∧ handlesMet Tryz.prog laidList W := h
  obtain ⟨name, u, ty, e1, e2, e3, e4, e5⟩ := h'.2 _ (List.mem_singleton.2 rfl)
  have en : name = [101, 114, 114, 111, 114] := (Option.some.inj e1).symm
  subst en
  obtain rfl := Option.some.inj (et_rt.symm.trans e2)
  have hm : ty ∈ (List.range 260).filter fun t => Tryz.prog.rowNamed t [101, 114, 114, 111, 114] := List.mem_filter.2 ⟨List.mem_range.2 (by rw [← et_size]; exact e3), e4⟩
  rw [et_row] at hm
  obtain rfl := List.mem_singleton.1 hm
  have hh : typeHandle Tryz.prog 29 = .pointer (some ⟨2, 29, none⟩) := by kernel_rfl
  rw [hh] at e5
  have := World.var?_cell et_g e5 0
  unfold Et hnd
  simpa using this
noncomputable def laidWorld (os : Os) : World :=
  let w0 := World.holding Tryz.prog os ⟨#[], #[], []⟩
  { w0 with heap := w0.heap.modify 0 fun
      | .cells _ t frozen => .cells #[.iface 178 (.agg #[.pointer (some ⟨2, 29, none⟩)])] t frozen
      | o => o }
theorem laidWorld_met (os : Os) (args : Array Value) : laidMetH Tryz.prog laidList ((laidWorld os).forCall (fun _ _ => 0) ⟨#[], args, []⟩).memory :=
  laidMetH_of_parts (laidMet_nil _ _) (by kernel_rfl)
end Go.Proofs.YtpfmhohldfnhmaaGreatDoor
namespace Go.Proofs.YtpfmhohldfnhmaaGreatDoor.auditApplies
open Go.ChangeShapes Go.WideShapes Go.ChangeAt Go.RowKit Lk
open Go.ChangeMaps (open_string shut_string)
set_option linter.unusedVariables false
set_option linter.unusedSimpArgs false
set_option maxRecDepth 100000 in
theorem lifted (os : Os) (started : os.Started) (H : Type) (enc : TypeId × Value → H) :
    ReturnsInHanded {} Tryz.checked os 7 .any (fun w args => (Rows.auditAppliesSpec.pre enc Tryz.prog Tryz.f7 [] false w args ∧ laidMetH Tryz.prog laidList w) ∧ sizedMet enc Tryz.prog Tryz.f7 (OpenSpec.ofChange Rows.auditAppliesSpec) false w args)
      (Rows.auditAppliesSpec.post enc Tryz.prog Tryz.f7 false true false false) := by
  refine returnsInHanded_of_change_and (C := Tryz.checked) (X := fun w _ => laidMetH Tryz.prog laidList w) (fun _ _ _ hh h => h.of_heap hh) ownKnobNone started (by kernel_rfl) Tryz.func7
    (ChangeSpec.witness_at (enc := enc) (C := Tryz.checked) (os := os) (X := fun w _ => laidMetH Tryz.prog laidList w) false (laidWorld os) #[.slice none 0 0, .agg #[.int .i64 0, .int .u8 0, .int .u8 0, .int .u8 0, .int .u8 0, .int .u8 0, .int .u8 0, .int .u8 0, .int .u8 0, .int .u8 0, .int .u8 0, .int .u8 0, .int .u8 0, .int .u8 0, .int .u8 0, .int .u8 0, .int .u8 0], .slice none 0 0] 8 rfl (by kernel_rfl) (by kernel_rfl) (by kernel_rfl) (by kernel_rfl) (by kernel_rfl) (laidWorld_met os _)) ?_
  intro W base args ds gs before hval0 hW _ _ hLd _
  have hval : ∀ (j : Nat) t v, Tryz.f7.params[j]? = some t → args[j]? = some v → Value.okWide Tryz.prog W .any base t v := hval0
  have hW' := hW
  obtain ⟨p, q, hA0, hV, rfl, hfz, hnd⟩ := hW
  have hA : DataW.TrodAll enc Tryz.prog W 0 (fun _ => true) true Tryz.f7.params.toList args.toList ds p := hA0
  have hEt : Et W := handle_of_laid hLd
  rw [Tryz.params7] at hA hval
  obtain ⟨v0, vs0, d0, ds0, p0, q0, hargs, rfl, rfl, h0, r0⟩ := trodAll_cons hA
  obtain ⟨v1, vs1, d1, ds1, p1, q1, rfl, rfl, rfl, h1, r1⟩ := trodAll_cons r0
  obtain ⟨v2, vs2, d2, ds2, p2, q2, rfl, rfl, rfl, h2, r2⟩ := trodAll_cons r1
  obtain ⟨rfl, rfl, rfl⟩ := trodAll_nil r2
  obtain rfl : args = #[v0, v1, v2] := by cases args; simp_all
  obtain ⟨rfl, rfl⟩ := trodVars_none hV
  have k0 := h0
  have lt0 : ∀ x ∈ p0, x.block < W.heap.size := by obtain ⟨m, hm⟩ := k0; exact DataW.trod_lt m _ _ _ hm
  obtain ⟨a0, len0, cap0, rfl⟩ := okWide_slice Tryz.underlying22 (hval 0 22 v0 rfl rfl)
  obtain ⟨l0, hl0, s0⟩ := open_slice_u8 Tryz.underlying22 Tryz.underlying5 (by kernel_rfl) h0
  have k1 := h1
  have lt1 : ∀ x ∈ p1, x.block < W.heap.size := by obtain ⟨m, hm⟩ := k1; exact DataW.trod_lt m _ _ _ hm
  obtain ⟨cz1, cm1, rfl, ym1, yz1⟩ := open_chain (show Value.okWide Tryz.prog W .any base cht v1 from (hval 1 55 v1 rfl rfl))
  have k2 := h2
  have lt2 : ∀ x ∈ p2, x.block < W.heap.size := by obtain ⟨m, hm⟩ := k2; exact DataW.trod_lt m _ _ _ hm
  obtain ⟨a2, len2, cap2, rfl⟩ := okWide_slice Tryz.underlying22 (hval 2 22 v2 rfl rfl)
  obtain ⟨l2, hl2, s2⟩ := open_slice_u8 Tryz.underlying22 Tryz.underlying5 (by kernel_rfl) h2
  clear hA0 hval0
  refine (AuditApplies_any _ l0 cz1 cm1 _ l2 W hEt s0 ym1 yz1 s2).mono fun e W' ⟨he, bel⟩ => ?_
  subst he
  exact ⟨_, rfl, _, _, _, [], _, [], hW', trodAll_mk1 (shut_bool Tryz.underlying4 _), (trodAll_cons_mk (Below.trod laidOutAll (by kernel_rfl) (of_decide_eq_true (by kernel_rfl)) k0 bel lt0) (trodAll_cons_mk (Below.trod laidOutAll (by kernel_rfl) (of_decide_eq_true (by kernel_rfl)) k1 bel lt1) (trodAll_cons_mk (Below.trod laidOutAll (by kernel_rfl) (of_decide_eq_true (by kernel_rfl)) k2 bel lt2) trodAll_mk0))), rfl, bel.frame _, fun h => by cases h⟩
set_option maxHeartbeats 8000000 in
theorem closed : joinedFacts Tryz.checked.prog 7 Tryz.f7 Rows.auditAppliesSpec Rows.auditAppliesRow = true := by
  unfold joinedFacts
  simp only [Bool.and_eq_true]
  repeat' apply And.intro
  all_goals first | with_reducible exact fct_laid | with_reducible exact fct_maps | as_aux_lemma => kernel_rfl
theorem named_f : Tryz.prog.funcNamed "lockbox/lockboxlaw23.AuditApplies" = some 7 := by kernel_rfl
theorem over : Rows.AuditAppliesSaid :=
  OpenClaim.holds_of_wide 7 Tryz.f7 rfl rfl rfl rfl rfl rfl rfl ⟨rfl, rfl, rfl, rfl, rfl⟩ rfl rfl rfl rfl rfl named_f Tryz.func7 closed
    (of_decide_eq_true (by kernel_rfl)) (by unfold Func.isWrapper; first | (rw [if_pos (by decide +kernel)]; kernel_rfl) | (rw [if_neg (by decide +kernel)]; exact ⟨rfl, rfl⟩))
    (fun os started H enc _ => lifted os started H enc)
theorem params_ok (j : Nat) (t : TypeId) (ht : Tryz.f7.params[j]? = some t) : Tryz.prog.wantsStandIn t = false := by
  rw [Tryz.params7] at ht
  have hm : t ∈ #[22, 55, 22] := Array.mem_of_getElem? ht
  simp only [List.mem_toArray, List.mem_cons, List.not_mem_nil, or_false] at hm
  rcases hm with rfl | rfl | rfl
  · show Tryz.prog.wantsStandIn 22 = false
    kernel_rfl
  · show Tryz.prog.wantsStandIn 55 = false
    kernel_rfl
  · show Tryz.prog.wantsStandIn 22 = false
    kernel_rfl
theorem wf_text : Rows.auditAppliesRow.wfByText (OpenSpec.ofChange Rows.auditAppliesSpec) = true := by kernel_rfl
theorem goes_no : false = Rows.auditAppliesRow.goesBy Tryz.pinned.checked.prog := by kernel_rfl
theorem card_holds : Rows.AuditAppliesCardSaid :=
  Claim7.holds_tied_plain_at .later [] [.handle] true (true, "3a05d988fa47357c235f95377bda5449c7939e0ad58df945c3a7c09d3fa33a44") true
    over (fun _ h => by cases h) wf_text (fun _ h => by cases h) auditApplies_row_tie rfl ⟨rfl, rfl⟩ fct_main rfl
    (fun f fn hf hfn => by
      obtain rfl : f = 7 := Option.some.inj (named_f.symm.trans hf) |>.symm
      obtain rfl : fn = Tryz.f7 := (Option.some.inj (Tryz.func7.symm.trans hfn)).symm
      exact ⟨fct_looks, fun j t ht => params_ok j t ht⟩)
    goes_no
#print axioms card_holds
end Go.Proofs.YtpfmhohldfnhmaaGreatDoor.auditApplies
namespace Go.Proofs.YtpfmhohldfnhmaaGreatDoor
/-- The card, under a short name, for the claim. -/
theorem auditApplies_holds : Rows.AuditAppliesCardSaid := auditApplies.card_holds
end Go.Proofs.YtpfmhohldfnhmaaGreatDoor
