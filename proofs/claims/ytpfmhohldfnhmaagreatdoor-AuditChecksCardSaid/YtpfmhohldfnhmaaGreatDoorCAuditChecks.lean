/- of whatever notes, held against whatever chain: whether they make it, or which one is none -/
import Derived.Test.YtpfmhohldfnhmaaGreatDoorKAU3
import Derived.Test.YtpfmhohldfnhmaaGreatDoorKB0
import Derived.WalkKit
import Derived.ProofKit
import Derived.OpenShut
import Derived.ShutString
import Derived.ChangeOld
import Derived.SizedLaws
import Derived.ChangeSlices
import Derived.Test.YtpfmhohldfnhmaaGreatDoorKAU0
import Derived.Test.YtpfmhohldfnhmaaGreatDoorRows
import Derived.Test.YtpfmhohldfnhmaaGreatDoorKB6
import Derived.ChangeSame
import Derived.ChangeVars
import Derived.JoinedOf
import Derived.RowKit
import Derived.RowKitTokens
import Derived.LaidLaws
import Derived.LaidHandle
import Derived.Stop.Joined
import Derived.SevenTiedAt
import Derived.Test.YtpfmhohldfnhmaaGreatDoorKAU1
import Derived.Deep.Slices
import Derived.ChangeArms
import Derived.Test.YtpfmhohldfnhmaaGreatDoorCards
import Derived.Test.YtpfmhohldfnhmaaGreatDoorTie
set_option linter.unusedVariables false
set_option linter.unusedSimpArgs false
namespace Go.Proofs.YtpfmhohldfnhmaaGreatDoor
open Go Go.RowKit Lk
set_option maxHeartbeats 12800000 in
set_option maxRecDepth 100000 in
theorem AC_f0 (vk vs : Value) (key : List UInt8) (ss : List ByteArray) (z : Int) (m : List UInt8) (own : Bool) (w : World) (hE : Et w) (hk : SlB w vk key) (hs : SlS w vs ss) (hm : m.length = 16) (b0 : ¬ key.length ≤ 100) : Calls Tryz.prog 6 #[vk, vs, .agg (ch z m), .bool own] w fun e w' => e = .returned (.bool true) ∧ Below w.heap.size w w' := by
  obtain ⟨N, hN⟩ : ∃ N, w.heap.size = N := ⟨_, rfl⟩
  have HN := Lib.hid hN
  have HM := Lib.hid hm
  obtain ⟨LK, hL⟩ : ∃ L, key.length = L := ⟨_, rfl⟩
  obtain ⟨Ak, ck, rfl, hck⟩ := hk.formc hL
  rw [hL] at b0
  obtain ⟨LS, hLS⟩ : ∃ L, ss.length = L := ⟨_, rfl⟩
  have hs2 := hs
  obtain ⟨As, cs, rfl, hcs, hr⟩ := hs2
  have i0 : decide ((100 : Int) < (LK : Int)) = true := by simp; omega
  rw [hLS]
  have hM0 : Below N w w := Below.refl _ _
  have hs0 : N ≤ w.heap.size := by omega
  have E_0 := Lib.hid (hE)
  clear hE
  go_enter Tryz.func6, Tryz.ntmps6
  go_wp2_with (first | ((with_reducible show wpList _ _ _ _ _ w); refine box_ch (w := w) rfl 55 _ rfl z m (by rfl) ?_; intro u1 hA0 hG0 hz0; have hL : Below w.heap.size w u1 := below_none (Below.refl _ _) (Nat.le_refl _) hG0; rw [hN] at hA0 ⊢; clear hG0 hz0; have hM1 : Below N w u1 := below_more hM0 hL hs0; have hs1 : N ≤ u1.heap.size := Nat.le_trans hs0 (hL).size; have E_1 := Lib.hid (E_0.out.below hL); clear E_0; clear hM0 hs0; have C_1 := Lib.hid (hA0); clear hL hA0) | (go_at_call 30; (with_reducible show Calls _ _ _ u1 _); refine (awake23 u1).mono ?_; rintro e w2 ⟨rfl, hL⟩; have hM2 : Below N w w2 := below_more hM1 hL hs1; have hs2 : N ≤ w2.heap.size := Nat.le_trans hs1 (hL).size; have E_2 := Lib.hid (E_1.out.below hL); clear E_1; have C_2 := Lib.hid (C_1.out.under hL); clear C_1; clear hM1 hs1; clear hL) | (go_at_call 30; (with_reducible show Calls _ _ _ w2 _); refine (awake23 w2).mono ?_; rintro e w3 ⟨rfl, hL⟩; have hM3 : Below N w w3 := below_more hM2 hL hs2; have hs3 : N ≤ w3.heap.size := Nat.le_trans hs2 (hL).size; have E_3 := Lib.hid (E_2.out.below hL); clear E_2; have C_3 := Lib.hid (C_2.out.under hL); clear C_2; clear hM2 hs2; clear hL))
  go_ret
  exact ⟨rfl, by first | exact hM3 | (rw [HN.out]; exact hM3)⟩
set_option maxHeartbeats 12800000 in
set_option maxRecDepth 100000 in
theorem AC_f1 (vk vs : Value) (key : List UInt8) (ss : List ByteArray) (z : Int) (m : List UInt8) (own : Bool) (w : World) (hE : Et w) (hk : SlB w vk key) (hs : SlS w vs ss) (hm : m.length = 16) (b0 : key.length ≤ 100) (b1 : ¬ ss.length ≤ 20) : Calls Tryz.prog 6 #[vk, vs, .agg (ch z m), .bool own] w fun e w' => e = .returned (.bool true) ∧ Below w.heap.size w w' := by
  obtain ⟨N, hN⟩ : ∃ N, w.heap.size = N := ⟨_, rfl⟩
  have HN := Lib.hid hN
  have HM := Lib.hid hm
  obtain ⟨LK, hL⟩ : ∃ L, key.length = L := ⟨_, rfl⟩
  obtain ⟨Ak, ck, rfl, hck⟩ := hk.formc hL
  rw [hL] at b0
  obtain ⟨LS, hLS⟩ : ∃ L, ss.length = L := ⟨_, rfl⟩
  have hs2 := hs
  obtain ⟨As, cs, rfl, hcs, hr⟩ := hs2
  have i0 : decide ((100 : Int) < (LK : Int)) = false := by simp; omega
  rw [hLS]
  rw [hLS] at b1
  have i1 : decide ((20 : Int) < (LS : Int)) = true := by simp; omega
  have hM0 : Below N w w := Below.refl _ _
  have hs0 : N ≤ w.heap.size := by omega
  have E_0 := Lib.hid (hE)
  clear hE
  go_enter Tryz.func6, Tryz.ntmps6
  go_wp2_with (first | ((with_reducible show wpList _ _ _ _ _ w); refine box_ch (w := w) rfl 55 _ rfl z m (by rfl) ?_; intro u1 hA0 hG0 hz0; have hL : Below w.heap.size w u1 := below_none (Below.refl _ _) (Nat.le_refl _) hG0; rw [hN] at hA0 ⊢; clear hG0 hz0; have hM1 : Below N w u1 := below_more hM0 hL hs0; have hs1 : N ≤ u1.heap.size := Nat.le_trans hs0 (hL).size; have E_1 := Lib.hid (E_0.out.below hL); clear E_0; clear hM0 hs0; have C_1 := Lib.hid (hA0); clear hL hA0) | (go_at_call 30; (with_reducible show Calls _ _ _ u1 _); refine (awake23 u1).mono ?_; rintro e w2 ⟨rfl, hL⟩; have hM2 : Below N w w2 := below_more hM1 hL hs1; have hs2 : N ≤ w2.heap.size := Nat.le_trans hs1 (hL).size; have E_2 := Lib.hid (E_1.out.below hL); clear E_1; have C_2 := Lib.hid (C_1.out.under hL); clear C_1; clear hM1 hs1; clear hL) | (go_at_call 30; (with_reducible show Calls _ _ _ w2 _); refine (awake23 w2).mono ?_; rintro e w3 ⟨rfl, hL⟩; have hM3 : Below N w w3 := below_more hM2 hL hs2; have hs3 : N ≤ w3.heap.size := Nat.le_trans hs2 (hL).size; have E_3 := Lib.hid (E_2.out.below hL); clear E_2; have C_3 := Lib.hid (C_2.out.under hL); clear C_2; clear hM2 hs2; clear hL))
  go_ret
  exact ⟨rfl, by first | exact hM3 | (rw [HN.out]; exact hM3)⟩
set_option maxHeartbeats 12800000 in
set_option maxRecDepth 100000 in
theorem AC_f2 (vk vs : Value) (key : List UInt8) (ss : List ByteArray) (z : Int) (m : List UInt8) (own : Bool) (w : World) (hE : Et w) (hk : SlB w vk key) (hs : SlS w vs ss) (hm : m.length = 16) (b0 : key.length ≤ 100) (b1 : ss.length ≤ 20) (r0 : ¬ 0 ≤ z) : Calls Tryz.prog 6 #[vk, vs, .agg (ch z m), .bool own] w fun e w' => e = .returned (.bool true) ∧ Below w.heap.size w w' := by
  obtain ⟨N, hN⟩ : ∃ N, w.heap.size = N := ⟨_, rfl⟩
  have HN := Lib.hid hN
  have HM := Lib.hid hm
  obtain ⟨LK, hL⟩ : ∃ L, key.length = L := ⟨_, rfl⟩
  obtain ⟨Ak, ck, rfl, hck⟩ := hk.formc hL
  rw [hL] at b0
  obtain ⟨LS, hLS⟩ : ∃ L, ss.length = L := ⟨_, rfl⟩
  have hs2 := hs
  obtain ⟨As, cs, rfl, hcs, hr⟩ := hs2
  have i0 : decide ((100 : Int) < (LK : Int)) = false := by simp; omega
  rw [hLS]
  rw [hLS] at b1
  have i1 : decide ((20 : Int) < (LS : Int)) = false := by simp; omega
  have R0 := Lib.hid r0
  have hM0 : Below N w w := Below.refl _ _
  have hs0 : N ≤ w.heap.size := by omega
  have E_0 := Lib.hid (hE)
  clear hE
  go_enter Tryz.func6, Tryz.ntmps6
  go_wp2_with (first | ((with_reducible show wpList _ _ _ _ _ w); refine box_ch (w := w) rfl 55 _ rfl z m (by rfl) ?_; intro u1 hA0 hG0 hz0; have hL : Below w.heap.size w u1 := below_none (Below.refl _ _) (Nat.le_refl _) hG0; rw [hN] at hA0 ⊢; clear hG0 hz0; have hM1 : Below N w u1 := below_more hM0 hL hs0; have hs1 : N ≤ u1.heap.size := Nat.le_trans hs0 (hL).size; have E_1 := Lib.hid (E_0.out.below hL); clear E_0; clear hM0 hs0; have C_1 := Lib.hid (hA0); clear hL hA0) | (go_at_call 30; (with_reducible show Calls _ _ _ u1 _); refine (awake23 u1).mono ?_; rintro e w2 ⟨rfl, hL⟩; have hM2 : Below N w w2 := below_more hM1 hL hs1; have hs2 : N ≤ w2.heap.size := Nat.le_trans hs1 (hL).size; have E_2 := Lib.hid (E_1.out.below hL); clear E_1; have C_2 := Lib.hid (C_1.out.under hL); clear C_1; clear hM1 hs1; clear hL) | ((with_reducible show wpList _ _ _ _ _ w2); refine load_ch (w := w2) (by rfl) _ rfl N 55 z m (by rfl) C_2.out HM.out ?_) | (go_at_call 31; (with_reducible show Calls _ _ _ w2 _); refine (Right_low z m w2 (by have := R0.out; omega)).mono ?_; rintro e w3 ⟨rfl, hL⟩; have hM3 : Below N w w3 := below_more hM2 hL hs2; have hs3 : N ≤ w3.heap.size := Nat.le_trans hs2 (hL).size; have E_3 := Lib.hid (E_2.out.below hL); clear E_2; have C_3 := Lib.hid (C_2.out.under hL); clear C_2; clear hM2 hs2; clear hL) | (go_at_call 30; (with_reducible show Calls _ _ _ w3 _); refine (awake23 w3).mono ?_; rintro e w4 ⟨rfl, hL⟩; have hM4 : Below N w w4 := below_more hM3 hL hs3; have hs4 : N ≤ w4.heap.size := Nat.le_trans hs3 (hL).size; have E_4 := Lib.hid (E_3.out.below hL); clear E_3; have C_4 := Lib.hid (C_3.out.under hL); clear C_3; clear hM3 hs3; clear hL))
  go_ret
  exact ⟨rfl, by first | exact hM4 | (rw [HN.out]; exact hM4)⟩
set_option maxHeartbeats 12800000 in
set_option maxRecDepth 100000 in
theorem AC_f3 (vk vs : Value) (key : List UInt8) (ss : List ByteArray) (z : Int) (m : List UInt8) (own : Bool) (w : World) (hE : Et w) (hk : SlB w vk key) (hs : SlS w vs ss) (hm : m.length = 16) (b0 : key.length ≤ 100) (b1 : ss.length ≤ 20) (r0 : 0 ≤ z) (r1 : ¬ z ≤ 4294967295) : Calls Tryz.prog 6 #[vk, vs, .agg (ch z m), .bool own] w fun e w' => e = .returned (.bool true) ∧ Below w.heap.size w w' := by
  obtain ⟨N, hN⟩ : ∃ N, w.heap.size = N := ⟨_, rfl⟩
  have HN := Lib.hid hN
  have HM := Lib.hid hm
  obtain ⟨LK, hL⟩ : ∃ L, key.length = L := ⟨_, rfl⟩
  obtain ⟨Ak, ck, rfl, hck⟩ := hk.formc hL
  rw [hL] at b0
  obtain ⟨LS, hLS⟩ : ∃ L, ss.length = L := ⟨_, rfl⟩
  have hs2 := hs
  obtain ⟨As, cs, rfl, hcs, hr⟩ := hs2
  have i0 : decide ((100 : Int) < (LK : Int)) = false := by simp; omega
  rw [hLS]
  rw [hLS] at b1
  have i1 : decide ((20 : Int) < (LS : Int)) = false := by simp; omega
  have R0 := Lib.hid r0
  have R1 := Lib.hid r1
  have hM0 : Below N w w := Below.refl _ _
  have hs0 : N ≤ w.heap.size := by omega
  have E_0 := Lib.hid (hE)
  clear hE
  go_enter Tryz.func6, Tryz.ntmps6
  go_wp2_with (first | ((with_reducible show wpList _ _ _ _ _ w); refine box_ch (w := w) rfl 55 _ rfl z m (by rfl) ?_; intro u1 hA0 hG0 hz0; have hL : Below w.heap.size w u1 := below_none (Below.refl _ _) (Nat.le_refl _) hG0; rw [hN] at hA0 ⊢; clear hG0 hz0; have hM1 : Below N w u1 := below_more hM0 hL hs0; have hs1 : N ≤ u1.heap.size := Nat.le_trans hs0 (hL).size; have E_1 := Lib.hid (E_0.out.below hL); clear E_0; clear hM0 hs0; have C_1 := Lib.hid (hA0); clear hL hA0) | (go_at_call 30; (with_reducible show Calls _ _ _ u1 _); refine (awake23 u1).mono ?_; rintro e w2 ⟨rfl, hL⟩; have hM2 : Below N w w2 := below_more hM1 hL hs1; have hs2 : N ≤ w2.heap.size := Nat.le_trans hs1 (hL).size; have E_2 := Lib.hid (E_1.out.below hL); clear E_1; have C_2 := Lib.hid (C_1.out.under hL); clear C_1; clear hM1 hs1; clear hL) | ((with_reducible show wpList _ _ _ _ _ w2); refine load_ch (w := w2) (by rfl) _ rfl N 55 z m (by rfl) C_2.out HM.out ?_) | (go_at_call 31; (with_reducible show Calls _ _ _ w2 _); refine (Right_high z m w2 (by have := R0.out; omega) (by have := R1.out; omega)).mono ?_; rintro e w3 ⟨rfl, hL⟩; have hM3 : Below N w w3 := below_more hM2 hL hs2; have hs3 : N ≤ w3.heap.size := Nat.le_trans hs2 (hL).size; have E_3 := Lib.hid (E_2.out.below hL); clear E_2; have C_3 := Lib.hid (C_2.out.under hL); clear C_2; clear hM2 hs2; clear hL) | (go_at_call 30; (with_reducible show Calls _ _ _ w3 _); refine (awake23 w3).mono ?_; rintro e w4 ⟨rfl, hL⟩; have hM4 : Below N w w4 := below_more hM3 hL hs3; have hs4 : N ≤ w4.heap.size := Nat.le_trans hs3 (hL).size; have E_4 := Lib.hid (E_3.out.below hL); clear E_3; have C_4 := Lib.hid (C_3.out.under hL); clear C_3; clear hM3 hs3; clear hL))
  go_ret
  exact ⟨rfl, by first | exact hM4 | (rw [HN.out]; exact hM4)⟩
end Go.Proofs.YtpfmhohldfnhmaaGreatDoor
set_option linter.unusedVariables false
set_option linter.unusedSimpArgs false
namespace Go.Proofs.YtpfmhohldfnhmaaGreatDoor
open Go Go.RowKit Lk
theorem load_str (w : World) (ad : Addr) (u : Value) (h : w.cell? ad = some u) : (loadVar 9 ad : Sem Value).run Tryz.prog w = .ok u w := by
  simp [loadVar, go_sem, h]
theorem run_size_str (w : World) : (sizeOf (Tryz.prog.elem 64) : Sem Nat).run Tryz.prog w = .ok 1 w := by kernel_rfl
theorem rnext_none (vk : Value) (key : List UInt8) (k : Nat) (m : List UInt8) (s : ByteArray) (w : World) (hk : SlB w vk key) (hm : m.length = 16) (hno : ¬ (key.length = 16 ∧ okNote s = true)) :
    Calls Tryz.prog 33 #[vk, .agg (ch (k : Int) m), .string s] w fun e w' => e = .returned (.tuple #[.agg (ch (k : Int) m), .int .i64 2]) ∧ Below w.heap.size w w' := by
  by_cases h16 : key.length = 16
  case neg => exact rNext_key vk key k m s w hk hm h16
  by_cases h0 : s.size = 0
  · exact rNext_none vk key k m s w hk hm h16 h0
  by_cases h1 : 60 < s.size
  · exact rNext_long vk key k m s w hk hm h16 h1
  · exact absurd ⟨h16, by unfold okNote; simp; omega⟩ hno
set_option maxHeartbeats 12800000 in
set_option maxRecDepth 100000 in
theorem AC_main (vk vs : Value) (key : List UInt8) (ss : List ByteArray) (z : Int) (m : List UInt8) (own : Bool) (w : World) (hE : Et w) (hk : SlB w vk key) (hs : SlS w vs ss) (hm : m.length = 16) (b0 : key.length ≤ 100) (b1 : ss.length ≤ 20) (r0 : 0 ≤ z) (r1 : z ≤ 4294967295) : Calls Tryz.prog 6 #[vk, vs, .agg (ch z m), .bool own] w fun e w' => e = .returned (.bool true) ∧ Below w.heap.size w w' := by
  obtain ⟨N, hN⟩ : ∃ N, w.heap.size = N := ⟨_, rfl⟩
  have HN := Lib.hid hN
  have HM := Lib.hid hm
  obtain ⟨LK, hL⟩ : ∃ L, key.length = L := ⟨_, rfl⟩
  obtain ⟨Ak, ck, rfl, hck⟩ := hk.formc hL
  rw [hL] at b0
  obtain ⟨LS, hLS⟩ : ∃ L, ss.length = L := ⟨_, rfl⟩
  have hs2 := hs
  obtain ⟨As, cs, rfl, hcs, hr⟩ := hs2
  have HR0 := Lib.hid hr
  have hsx := hs
  rw [hLS] at b1 hr HR0 ⊢
  have HK := Lib.hid (fun (w' : World) (hw' : Below N w w') => hk.below (by rw [hN]; exact hw'))
  have HSS := Lib.hid (fun (w' : World) (hw' : Below N w w') => (show SlS w' (.slice As LS cs) ss from by have h := hsx.below (w1 := w') (by rw [hN]; exact hw'); rw [hLS] at h; exact h))
  have HE0 := Lib.hid hE
  have ELS := Lib.hid hLS
  have HL20 := Lib.hid (show ss.length ≤ 1000 by omega)
  have HLS20 := Lib.hid b1
  obtain ⟨M, eM⟩ : ∃ M, pmarks key ss 0 (List.replicate 16 0) = M := ⟨_, rfl⟩
  have EM := Lib.hid eM
  have HMM := Lib.hid (show M.length = 16 by rw [← eM]; exact pmarks_len key ss 0 _ (by simp))
  have R0 := Lib.hid r0
  have R1 := Lib.hid r1
  have i0 : decide ((100 : Int) < (LK : Int)) = false := by simp; omega
  have i1 : decide ((20 : Int) < (LS : Int)) = false := by simp; omega
  clear hsx hs hr eM r0 r1 b0 hm hL hcs
  have hM0 : Below N w w := Below.refl _ _
  have hs0 : N ≤ w.heap.size := by omega
  have E_0 := Lib.hid (hE)
  go_enter Tryz.func6, Tryz.ntmps6
  go_wp2_with (first | ((with_reducible show wpList _ _ _ _ _ w); refine box_ch (w := w) rfl 55 _ rfl z m (by rfl) ?_; intro u1 hA0 hG0 hz0; have hL : Below w.heap.size w u1 := below_none (Below.refl _ _) (Nat.le_refl _) hG0; rw [hN] at hA0 ⊢; clear hG0 hz0; have hM1 : Below N w u1 := below_more hM0 hL hs0; have hs1 : N ≤ u1.heap.size := Nat.le_trans hs0 (hL).size; have E_1 := Lib.hid (E_0.out.below hL); clear E_0; clear hM0 hs0; have C_1 := Lib.hid (hA0); clear hL hA0) | (go_at_call 30; (with_reducible show Calls _ _ _ u1 _); refine (awake23 u1).mono ?_; rintro e w2 ⟨rfl, hL⟩; have hM2 : Below N w w2 := below_more hM1 hL hs1; have hs2 : N ≤ w2.heap.size := Nat.le_trans hs1 (hL).size; have E_2 := Lib.hid (E_1.out.below hL); clear E_1; have C_2 := Lib.hid (C_1.out.under hL); clear C_1; clear hM1 hs1; clear hL) | ((with_reducible show wpList _ _ _ _ _ w2); refine load_ch (w := w2) (by rfl) _ rfl N 55 z m (by rfl) C_2.out HM.out ?_) | (go_at_call 31; (with_reducible show Calls _ _ _ w2 _); refine (Right_yes z m w2 (by have := R0.out; omega) (by have := R1.out; omega)).mono ?_; rintro e w3 ⟨rfl, hL⟩; have hM3 : Below N w w3 := below_more hM2 hL hs2; have hs3 : N ≤ w3.heap.size := Nat.le_trans hs2 (hL).size; have E_3 := Lib.hid (E_2.out.below hL); clear E_2; have C_3 := Lib.hid (C_2.out.under hL); clear C_2; clear hM2 hs2; clear hL) | ((with_reducible show wpList _ _ _ _ _ w3); refine op_bld0 (w := w3) (by rfl) cht rfl (.agg (ch 0 (List.replicate 16 0))) bld_ch0 ?_) | ((with_reducible show wpList _ _ _ _ _ w3); refine alloc_row (w := w3) rfl 55 rfl (.agg (ch 0 (List.replicate 16 0))) 17 (fun _ => by kernel_rfl) (by kernel_rfl) ?_; intro wa hRa _ hGa hza) | ((with_reducible show wpList _ _ _ _ _ wa); refine store_ch (w := wa) rfl 55 _ _ rfl w3.heap.size 55 0 (List.replicate 16 0) (by rfl) (by rfl) hRa (by decide) (by kernel_rfl) ?_; intro w4 hBb hGb hzb; have hL : Below w3.heap.size w3 w4 := below_new (below_none (Below.refl _ _) (Nat.le_refl _) hGa) hGa.size hGb (Nat.le_refl _); obtain ⟨GO, eGx⟩ : ∃ g, w3.heap.size = g := ⟨_, rfl⟩; have hgB : ChB w4 GO 55 0 (List.replicate 16 0) := (by rw [← eGx]; exact hBb); have HLGO := Lib.hid (show N ≤ GO from (by rw [← eGx]; exact hs3)); have HGO := Lib.hid (show N < GO from (by rw [← eGx]; have := C_3.out.lt; omega)); rw [eGx]; clear hRa hGa hza hBb hGb hzb eGx; have hM4 : Below N w w4 := below_more hM3 hL hs3; have hs4 : N ≤ w4.heap.size := Nat.le_trans hs3 (hL).size; have E_4 := Lib.hid (E_3.out.below hL); clear E_3; have C_4 := Lib.hid (C_3.out.under hL); clear C_3; clear hM3 hs3; have O_4 := Lib.hid (hgB); clear hL hgB))
  have hgo : GO < w4.heap.size := O_4.out.lt
  have hO0 : ChB w4 GO 55 ((0 : Nat) : Int) (pmarks key (ss.take 0) 0 (List.replicate 16 0)) := O_4.out
  have hC0 := C_4.out
  have hE0 := E_4.out
  have hM0 := hM4
  clear E_4 C_4 O_4
  clear hM4 hs4
  go_loopw [10, 11] (fun b i wr => ∃ k : Nat, k ≤ LS ∧ i = .int .i64 k ∧ ((b = .int .i64 (-1) ∧ (∀ j, j < k → key.length = 16 ∧ okNote (gs ss j) = true) ∧ ChB wr GO 55 (k : Int) (pmarks key (ss.take k) 0 (List.replicate 16 0))) ∨ ∃ B : Nat, k = B + 1 ∧ b = .int .i64 (B : Int) ∧ B < LS ∧ (∀ j, j < B → key.length = 16 ∧ okNote (gs ss j) = true) ∧ (gs ss B).size ≤ 200 ∧ (¬ (key.length = 16 ∧ okNote (gs ss B) = true)) ∧ ∃ mm : List UInt8, mm.length = 16 ∧ ChB wr GO 55 (B : Int) mm) ∧ ChB wr N 55 z m ∧ Et wr ∧ Below N w wr ∧ GO < wr.heap.size) (fun _ i _ => LS - (intOf i).toNat)
  case atStart => exact ⟨0, by omega, rfl, .inl ⟨rfl, fun j hj => by omega, hO0⟩, hC0, hE0, hM0, hgo⟩
  case round =>
    clear hO0 hC0 hE0 hM0 hgo
    obtain ⟨k, hk, rfl, hst, hC9, hE9, hM9, hgo9⟩ := hrel
    have hs9 : N ≤ wr.heap.size := by have := HGO.out; omega
    rcases hst with ⟨rfl, hok, hO9⟩ | ⟨B, hkB, rfl, hBL, hok, hsz, hno, mm, hmm, hO9⟩
    · by_cases hlt : k < LS
      · obtain ⟨g, o, rfl, hrd⟩ := HR0.out (by omega)
        have hgN : g < N := by rw [← hN]; exact block_of_cell (hrd 0 (by omega))
        have c1 : wr.cell? ⟨g, o + k, none⟩ = some (.string (gs ss k)) := cell_below (hrd k hlt) hM9 hgN
        have HLT := Lib.hid hlt
        have hik : decide ((k : Int) < (LS : Int)) = true := by simp; omega
        by_cases h2 : (gs ss k).size ≤ 200
        · have i2 : decide ((200 : Int) < ((gs ss k).size : Int)) = false := by simp; omega
          have HSZ := Lib.hid h2
          have HOKb := Lib.hid hok
          obtain ⟨mk, emk⟩ : ∃ x, (pmarks key (ss.take k) 0 (List.replicate 16 0)) = x := ⟨_, rfl⟩
          have HMK := Lib.hid (show mk.length = 16 by rw [← emk]; exact pmarks_len key _ 0 _ (by simp))
          have EMK := Lib.hid emk
          rw [emk] at hO9
          by_cases hy : key.length = 16 ∧ okNote (gs ss k) = true
          · have HOKk := Lib.hid hy
            have hy2 := hy.2
            unfold okNote at hy2
            simp only [Bool.and_eq_true, decide_eq_true_eq] at hy2
            obtain ⟨mn, emn⟩ : ∃ x, pcmac 1 key (mk ++ pnum (k + 1) ++ sb (gs ss k)) = x := ⟨_, rfl⟩
            have HMN := Lib.hid (show mn.length = 16 by rw [← emn]; exact pcmac_len 1 key _ (.inl rfl))
            have EMN := Lib.hid emn
            have HX := Lib.hid (fun (w' : World) (hw' : Below N w w') => show Calls Tryz.prog 33 #[(.slice Ak LK ck), .agg (ch (k : Int) mk), .string (gs ss k)] w' fun e w'' => e = .returned (.tuple #[.agg (ch ((k + 1 : Nat) : Int) mn), .int .i64 0]) ∧ Below w'.heap.size w' w'' from by have h := rNext_yes (.slice Ak LK ck) key k mk (gs ss k) w' (HK.out w' hw') HMK.out hy.1 hy2.1 hy2.2 (by have := HL20.out; omega); rw [emn] at h; exact h)
            clear hy hy2 hok emn emk hrd
            go_wp2_with fail
            obtain ⟨MR, eMR⟩ : ∃ M, wr.heap.size = M := ⟨_, rfl⟩
            have HSM := Lib.hid (show ∀ wq, Below MR wr wq → Below wr.heap.size wr wq from fun wq h => by rw [eMR]; exact h)
            have hS : Below MR wr wr.drew := ⟨rfl, rfl, rfl, Nat.le_refl _, fun _ _ => rfl⟩
            have HOk := Lib.hid (show ∀ wq, Below MR wr wq → ChB wq GO 55 (k : Int) mk from fun wq h => hO9.under (HSM.out wq h))
            have HCk := Lib.hid (show ∀ wq, Below MR wr wq → wq.cell? ⟨g, o + k, none⟩ = some (.string (gs ss k)) from fun wq h => cell_below c1 (HSM.out wq h) (block_of_cell c1))
            have HWk := Lib.hid (show ∀ wq, Below MR wr wq → Below N w wq from fun wq h => below_more hM9 (HSM.out wq h) hs9)
            have HMR := Lib.hid eMR
            refine wp_region_held (S := fun wq => Below MR wr wq) (by kernel_rfl) ?_
            show wpAnyH _ _ _ _ _ 13 _ _ wr.drew
            refine anyH_tk (i := 0) (some 51) rfl (by kernel_rfl) (by kernel_rfl) (by kernel_rfl) (by kernel_rfl) (fun _ _ _ h => h) (yields_val (by kernel_rfl) ((.slice Ak LK ck)) (fun w => by kernel_rfl)) hS ?_
            refine anyH_tk (i := 1) (some 52) rfl (by kernel_rfl) (by kernel_rfl) (by kernel_rfl) (by kernel_rfl) (fun _ _ _ h => h) (yields_chain (by kernel_rfl) _ rfl GO 55 (k : Int) mk (by kernel_rfl) (fun wq hq => HOk.out wq hq) HMK.out) hS ?_
            refine anyH_tk (i := 2) (some 53) rfl (by kernel_rfl) (by kernel_rfl) (by kernel_rfl) (by kernel_rfl) (fun _ _ _ h => h) (yields_val (by kernel_rfl) (.slice (some ⟨g, o, none⟩) LS cs) (fun w => by kernel_rfl)) hS ?_
            refine anyH_tk (i := 3) (some 54) rfl (by kernel_rfl) (by kernel_rfl) (by kernel_rfl) (by kernel_rfl) (fun _ _ _ h => h) (yields_val (by kernel_rfl) (.int .i64 (k : Int)) (fun w => by kernel_rfl)) hS ?_
            refine anyH_tk (i := 4) (some 55) rfl (by kernel_rfl) (by kernel_rfl) (by kernel_rfl) (by kernel_rfl) (fun _ _ _ h => h) (yields_ix (by kernel_rfl) 64 _ _ rfl g o LS cs k 1 (k : Int) (by kernel_rfl) (by kernel_rfl) rfl HLT.out (o + k) (by rw [Nat.mul_one]) (by kernel_rfl) (fun w => run_size_str w)) hS ?_
            refine anyH_tk (i := 5) (some 56) rfl (by kernel_rfl) (by kernel_rfl) (by kernel_rfl) (by kernel_rfl) (fun _ _ _ h => h) (yields_cell (by kernel_rfl) (.string (gs ss k)) 9 _ rfl ⟨g, o + k, none⟩ (by kernel_rfl) (fun w h => load_str w _ _ h) (fun wq hq => HCk.out wq hq)) hS ?_
            refine wpAnyH_all (rs := [6, 10]) (by kernel_rfl) (by decide) ?_
            intro i hi
            simp only [List.mem_cons, List.not_mem_nil, or_false] at hi
            rcases hi with rfl | rfl
            · refine OpHd.h ?_
              refine opH_enter (some 57) rfl (by kernel_rfl) (by kernel_rfl) 33 #[(.slice Ak LK ck), .agg (ch (k : Int) mk), .string (gs ss k)] (fun v wq => v = .tuple #[.agg (ch ((k + 1 : Nat) : Int) mn), .int .i64 0] ∧ Below wr.drew.heap.size wr.drew wq) (by kernel_rfl) ((HX.out wr.drew (HWk.out wr.drew hS)).mono fun e wq ⟨q1, q2⟩ => ⟨_, q1, rfl, q2⟩) ?_
              rintro v9 v1 ⟨rfl, hL⟩
              have hS : Below MR wr v1 := below_more hS hL (by have := hS.size; have := HMR.out; omega)
              refine ⟨hS, ?_⟩
              refine anyH_tk (i := 7) (some 50) rfl (by kernel_rfl) (by kernel_rfl) (by kernel_rfl) (by kernel_rfl) (fun _ _ _ h => h) (yields_val (by kernel_rfl) (.tuple #[.agg (ch ((k + 1 : Nat) : Int) mn), .int .i64 0]) (fun w => by kernel_rfl)) hS ?_
              refine anyH_tk (i := 8) (some 58) rfl (by kernel_rfl) (by kernel_rfl) (by kernel_rfl) (by kernel_rfl) (fun _ _ _ h => h) (yields_val (by kernel_rfl) (.agg (ch ((k + 1 : Nat) : Int) mn)) (fun w => by kernel_rfl)) hS ?_
              refine anyH_tk (i := 9) (some 59) rfl (by kernel_rfl) (by kernel_rfl) (by kernel_rfl) (by kernel_rfl) (fun _ _ _ h => h) (yields_val (by kernel_rfl) (.int .i64 0) (fun w => by kernel_rfl)) hS ?_
              refine wpAnyH_all (rs := [10]) (by kernel_rfl) (by decide) ?_
              intro i hi
              obtain rfl : i = 10 := by simpa using hi
              refine wpOp_alloc rfl (by kernel_rfl) 55 rfl (.agg (ch 0 (List.replicate 16 0))) 17 (fun _ => by kernel_rfl) (by kernel_rfl) ?_
              intro v2 hRx hGa hza
              obtain ⟨gx, egx⟩ : ∃ g, v1.heap.size = g := ⟨_, rfl⟩
              rw [egx] at hRx ⊢
              have hgx : MR ≤ gx := by have := hS.size; have := HMR.out; omega
              have hS : Below MR wr v2 := below_none hS (by have := hS.size; have := HMR.out; omega) hGa
              refine ⟨hS, ?_⟩
              refine wpAnyH_all (rs := [11]) (by kernel_rfl) (by decide) ?_
              intro i hi
              obtain rfl : i = 11 := by simpa using hi
              refine wpOp_store_ch rfl (by kernel_rfl) 55 _ _ rfl gx 55 ((k + 1 : Nat) : Int) mn (by kernel_rfl) (by kernel_rfl) hRx HMN.out (by kernel_rfl) ?_
              intro wq hBx hGx hzx
              have hS : Below MR wr wq := below_new hS (by have := hS.size; have := HMR.out; omega) hGx hgx
              refine ⟨hS, ?_⟩
              refine anyH_tk (i := 12) (some 13) rfl (by kernel_rfl) (by kernel_rfl) (by kernel_rfl) (by kernel_rfl) (fun _ _ _ h => h) (yields_val (by kernel_rfl) (.int .i64 0) (fun w => by kernel_rfl)) hS ?_
              refine wpAnyH_done (by kernel_rfl) ?_ _
              simp only [Act.put, List.getElem_toArray, List.getElem_cons_succ, List.getElem_cons_zero, List.setIfInBounds_toArray, List.set_cons_succ, List.set_cons_zero]
              have hL := HSM.out wq hS
              have hX9 : ChB wq gx 55 ((k + 1 : Nat) : Int) mn := hBx
              have hO0 := hO9.under hL
              have hE9 := hE9.below hL
              have hC9 := hC9.under hL
              have hM9 := below_more hM9 hL hs9
              have hs9 : N ≤ wq.heap.size := Nat.le_trans hs9 hL.size
              have hgo9 : GO < wq.heap.size := Nat.lt_of_lt_of_le hgo9 hL.size
              have HX9 := Lib.hid hX9
              have HO9 := Lib.hid hO0
              have HE9 := Lib.hid hE9
              have HC9 := Lib.hid hC9
              have HM9 := Lib.hid hM9
              have HS9 := Lib.hid hs9
              have HG9 := Lib.hid hgo9
              clear hX9 hO0 hE9 hC9 hM9 hs9 hgo9 hL hS hBx hGx hzx hRx hgx HSM HOk HCk HWk HMR
              go_wp2_with (first | ((with_reducible show wpList _ _ _ _ _ wq); refine load_ch (w := wq) (by rfl) _ rfl gx 55 ((k + 1 : Nat) : Int) mn (by rfl) HX9.out HMN.out ?_) | ((with_reducible show wpList _ _ _ _ _ wq); refine store_ch (w := wq) rfl 55 _ _ rfl GO 55 ((k + 1 : Nat) : Int) mn (by rfl) (by rfl) (HO9.out.row HMK.out) HMN.out (by kernel_rfl) ?_; intro wt hB hG hz))
              refine ⟨⟨k + 1, HLT.out, by go_num, ?_, HC9.out.old hG (by have := HGO.out; simp; omega), HE0.out.under (below_new HM9.out HS9.out hG (Nat.le_of_lt HGO.out)) HN.out, below_new HM9.out HS9.out hG (Nat.le_of_lt HGO.out), by rw [hz]; exact HG9.out⟩, by have : k < LS := HLT.out; simp [intOf]; omega⟩
              refine .inl ⟨rfl, fun j hj => ?_, ?_⟩
              · by_cases e : j = k
                · rw [e]; exact HOKk.out
                · exact HOKb.out j (by omega)
              · rw [pmarks_take key _ ss k (by rw [ELS.out]; exact HLT.out), EMK.out]
                unfold pmark
                rw [EMN.out]
                exact hB
            · refine wpOp_alloc rfl (by kernel_rfl) 55 rfl (.agg (ch 0 (List.replicate 16 0))) 17 (fun _ => by kernel_rfl) (by kernel_rfl) ?_
              intro v1 hRx hGa hza
              obtain ⟨gx, egx⟩ : ∃ g, wr.drew.heap.size = g := ⟨_, rfl⟩
              rw [egx] at hRx ⊢
              have hgx : MR ≤ gx := by have := hS.size; have := HMR.out; omega
              have hS : Below MR wr v1 := below_none hS (by have := hS.size; have := HMR.out; omega) hGa
              refine ⟨hS, ?_⟩
              refine anyH_one 6 (by kernel_rfl) ?_
              refine opH_enter (some 57) rfl (by kernel_rfl) (by kernel_rfl) 33 #[(.slice Ak LK ck), .agg (ch (k : Int) mk), .string (gs ss k)] (fun v wq => v = .tuple #[.agg (ch ((k + 1 : Nat) : Int) mn), .int .i64 0] ∧ Below v1.heap.size v1 wq) (by kernel_rfl) ((HX.out v1 (HWk.out v1 hS)).mono fun e wq ⟨q1, q2⟩ => ⟨_, q1, rfl, q2⟩) ?_
              rintro v9 v2 ⟨rfl, hL⟩
              have hRx := hRx.below hL hRx.lt
              have hS : Below MR wr v2 := below_more hS hL (by have := hS.size; have := HMR.out; omega)
              refine ⟨hS, ?_⟩
              refine anyH_tk (i := 7) (some 50) rfl (by kernel_rfl) (by kernel_rfl) (by kernel_rfl) (by kernel_rfl) (fun _ _ _ h => h) (yields_val (by kernel_rfl) (.tuple #[.agg (ch ((k + 1 : Nat) : Int) mn), .int .i64 0]) (fun w => by kernel_rfl)) hS ?_
              refine anyH_tk (i := 8) (some 58) rfl (by kernel_rfl) (by kernel_rfl) (by kernel_rfl) (by kernel_rfl) (fun _ _ _ h => h) (yields_val (by kernel_rfl) (.agg (ch ((k + 1 : Nat) : Int) mn)) (fun w => by kernel_rfl)) hS ?_
              refine anyH_tk (i := 9) (some 59) rfl (by kernel_rfl) (by kernel_rfl) (by kernel_rfl) (by kernel_rfl) (fun _ _ _ h => h) (yields_val (by kernel_rfl) (.int .i64 0) (fun w => by kernel_rfl)) hS ?_
              refine wpAnyH_all (rs := [11]) (by kernel_rfl) (by decide) ?_
              intro i hi
              obtain rfl : i = 11 := by simpa using hi
              refine wpOp_store_ch rfl (by kernel_rfl) 55 _ _ rfl gx 55 ((k + 1 : Nat) : Int) mn (by kernel_rfl) (by kernel_rfl) hRx HMN.out (by kernel_rfl) ?_
              intro wq hBx hGx hzx
              have hS : Below MR wr wq := below_new hS (by have := hS.size; have := HMR.out; omega) hGx hgx
              refine ⟨hS, ?_⟩
              refine anyH_tk (i := 12) (some 13) rfl (by kernel_rfl) (by kernel_rfl) (by kernel_rfl) (by kernel_rfl) (fun _ _ _ h => h) (yields_val (by kernel_rfl) (.int .i64 0) (fun w => by kernel_rfl)) hS ?_
              refine wpAnyH_done (by kernel_rfl) ?_ _
              simp only [Act.put, List.getElem_toArray, List.getElem_cons_succ, List.getElem_cons_zero, List.setIfInBounds_toArray, List.set_cons_succ, List.set_cons_zero]
              have hL := HSM.out wq hS
              have hX9 : ChB wq gx 55 ((k + 1 : Nat) : Int) mn := hBx
              have hO0 := hO9.under hL
              have hE9 := hE9.below hL
              have hC9 := hC9.under hL
              have hM9 := below_more hM9 hL hs9
              have hs9 : N ≤ wq.heap.size := Nat.le_trans hs9 hL.size
              have hgo9 : GO < wq.heap.size := Nat.lt_of_lt_of_le hgo9 hL.size
              have HX9 := Lib.hid hX9
              have HO9 := Lib.hid hO0
              have HE9 := Lib.hid hE9
              have HC9 := Lib.hid hC9
              have HM9 := Lib.hid hM9
              have HS9 := Lib.hid hs9
              have HG9 := Lib.hid hgo9
              clear hX9 hO0 hE9 hC9 hM9 hs9 hgo9 hL hS hBx hGx hzx hRx hgx HSM HOk HCk HWk HMR
              go_wp2_with (first | ((with_reducible show wpList _ _ _ _ _ wq); refine load_ch (w := wq) (by rfl) _ rfl gx 55 ((k + 1 : Nat) : Int) mn (by rfl) HX9.out HMN.out ?_) | ((with_reducible show wpList _ _ _ _ _ wq); refine store_ch (w := wq) rfl 55 _ _ rfl GO 55 ((k + 1 : Nat) : Int) mn (by rfl) (by rfl) (HO9.out.row HMK.out) HMN.out (by kernel_rfl) ?_; intro wt hB hG hz))
              refine ⟨⟨k + 1, HLT.out, by go_num, ?_, HC9.out.old hG (by have := HGO.out; simp; omega), HE0.out.under (below_new HM9.out HS9.out hG (Nat.le_of_lt HGO.out)) HN.out, below_new HM9.out HS9.out hG (Nat.le_of_lt HGO.out), by rw [hz]; exact HG9.out⟩, by have : k < LS := HLT.out; simp [intOf]; omega⟩
              refine .inl ⟨rfl, fun j hj => ?_, ?_⟩
              · by_cases e : j = k
                · rw [e]; exact HOKk.out
                · exact HOKb.out j (by omega)
              · rw [pmarks_take key _ ss k (by rw [ELS.out]; exact HLT.out), EMK.out]
                unfold pmark
                rw [EMN.out]
                exact hB
          · have HOKk := Lib.hid hy
            have HX := Lib.hid (fun (w' : World) (hw' : Below N w w') => show Calls Tryz.prog 33 #[(.slice Ak LK ck), .agg (ch (k : Int) mk), .string (gs ss k)] w' fun e w'' => e = .returned (.tuple #[.agg (ch (k : Int) mk), .int .i64 2]) ∧ Below w'.heap.size w' w'' from rnext_none (.slice Ak LK ck) key k mk (gs ss k) w' (HK.out w' hw') HMK.out HOKk.out)
            clear hy hok emk hrd
            go_wp2_with fail
            obtain ⟨MR, eMR⟩ : ∃ M, wr.heap.size = M := ⟨_, rfl⟩
            have HSM := Lib.hid (show ∀ wq, Below MR wr wq → Below wr.heap.size wr wq from fun wq h => by rw [eMR]; exact h)
            have hS : Below MR wr wr.drew := ⟨rfl, rfl, rfl, Nat.le_refl _, fun _ _ => rfl⟩
            have HOk := Lib.hid (show ∀ wq, Below MR wr wq → ChB wq GO 55 (k : Int) mk from fun wq h => hO9.under (HSM.out wq h))
            have HCk := Lib.hid (show ∀ wq, Below MR wr wq → wq.cell? ⟨g, o + k, none⟩ = some (.string (gs ss k)) from fun wq h => cell_below c1 (HSM.out wq h) (block_of_cell c1))
            have HWk := Lib.hid (show ∀ wq, Below MR wr wq → Below N w wq from fun wq h => below_more hM9 (HSM.out wq h) hs9)
            have HMR := Lib.hid eMR
            refine wp_region_held (S := fun wq => Below MR wr wq) (by kernel_rfl) ?_
            show wpAnyH _ _ _ _ _ 13 _ _ wr.drew
            refine anyH_tk (i := 0) (some 51) rfl (by kernel_rfl) (by kernel_rfl) (by kernel_rfl) (by kernel_rfl) (fun _ _ _ h => h) (yields_val (by kernel_rfl) ((.slice Ak LK ck)) (fun w => by kernel_rfl)) hS ?_
            refine anyH_tk (i := 1) (some 52) rfl (by kernel_rfl) (by kernel_rfl) (by kernel_rfl) (by kernel_rfl) (fun _ _ _ h => h) (yields_chain (by kernel_rfl) _ rfl GO 55 (k : Int) mk (by kernel_rfl) (fun wq hq => HOk.out wq hq) HMK.out) hS ?_
            refine anyH_tk (i := 2) (some 53) rfl (by kernel_rfl) (by kernel_rfl) (by kernel_rfl) (by kernel_rfl) (fun _ _ _ h => h) (yields_val (by kernel_rfl) (.slice (some ⟨g, o, none⟩) LS cs) (fun w => by kernel_rfl)) hS ?_
            refine anyH_tk (i := 3) (some 54) rfl (by kernel_rfl) (by kernel_rfl) (by kernel_rfl) (by kernel_rfl) (fun _ _ _ h => h) (yields_val (by kernel_rfl) (.int .i64 (k : Int)) (fun w => by kernel_rfl)) hS ?_
            refine anyH_tk (i := 4) (some 55) rfl (by kernel_rfl) (by kernel_rfl) (by kernel_rfl) (by kernel_rfl) (fun _ _ _ h => h) (yields_ix (by kernel_rfl) 64 _ _ rfl g o LS cs k 1 (k : Int) (by kernel_rfl) (by kernel_rfl) rfl HLT.out (o + k) (by rw [Nat.mul_one]) (by kernel_rfl) (fun w => run_size_str w)) hS ?_
            refine anyH_tk (i := 5) (some 56) rfl (by kernel_rfl) (by kernel_rfl) (by kernel_rfl) (by kernel_rfl) (fun _ _ _ h => h) (yields_cell (by kernel_rfl) (.string (gs ss k)) 9 _ rfl ⟨g, o + k, none⟩ (by kernel_rfl) (fun w h => load_str w _ _ h) (fun wq hq => HCk.out wq hq)) hS ?_
            refine wpAnyH_all (rs := [6, 10]) (by kernel_rfl) (by decide) ?_
            intro i hi
            simp only [List.mem_cons, List.not_mem_nil, or_false] at hi
            rcases hi with rfl | rfl
            · refine OpHd.h ?_
              refine opH_enter (some 57) rfl (by kernel_rfl) (by kernel_rfl) 33 #[(.slice Ak LK ck), .agg (ch (k : Int) mk), .string (gs ss k)] (fun v wq => v = .tuple #[.agg (ch (k : Int) mk), .int .i64 2] ∧ Below wr.drew.heap.size wr.drew wq) (by kernel_rfl) ((HX.out wr.drew (HWk.out wr.drew hS)).mono fun e wq ⟨q1, q2⟩ => ⟨_, q1, rfl, q2⟩) ?_
              rintro v9 v1 ⟨rfl, hL⟩
              have hS : Below MR wr v1 := below_more hS hL (by have := hS.size; have := HMR.out; omega)
              refine ⟨hS, ?_⟩
              refine anyH_tk (i := 7) (some 50) rfl (by kernel_rfl) (by kernel_rfl) (by kernel_rfl) (by kernel_rfl) (fun _ _ _ h => h) (yields_val (by kernel_rfl) (.tuple #[.agg (ch (k : Int) mk), .int .i64 2]) (fun w => by kernel_rfl)) hS ?_
              refine anyH_tk (i := 8) (some 58) rfl (by kernel_rfl) (by kernel_rfl) (by kernel_rfl) (by kernel_rfl) (fun _ _ _ h => h) (yields_val (by kernel_rfl) (.agg (ch (k : Int) mk)) (fun w => by kernel_rfl)) hS ?_
              refine anyH_tk (i := 9) (some 59) rfl (by kernel_rfl) (by kernel_rfl) (by kernel_rfl) (by kernel_rfl) (fun _ _ _ h => h) (yields_val (by kernel_rfl) (.int .i64 2) (fun w => by kernel_rfl)) hS ?_
              refine wpAnyH_all (rs := [10]) (by kernel_rfl) (by decide) ?_
              intro i hi
              obtain rfl : i = 10 := by simpa using hi
              refine wpOp_alloc rfl (by kernel_rfl) 55 rfl (.agg (ch 0 (List.replicate 16 0))) 17 (fun _ => by kernel_rfl) (by kernel_rfl) ?_
              intro v2 hRx hGa hza
              obtain ⟨gx, egx⟩ : ∃ g, v1.heap.size = g := ⟨_, rfl⟩
              rw [egx] at hRx ⊢
              have hgx : MR ≤ gx := by have := hS.size; have := HMR.out; omega
              have hS : Below MR wr v2 := below_none hS (by have := hS.size; have := HMR.out; omega) hGa
              refine ⟨hS, ?_⟩
              refine wpAnyH_all (rs := [11]) (by kernel_rfl) (by decide) ?_
              intro i hi
              obtain rfl : i = 11 := by simpa using hi
              refine wpOp_store_ch rfl (by kernel_rfl) 55 _ _ rfl gx 55 (k : Int) mk (by kernel_rfl) (by kernel_rfl) hRx HMK.out (by kernel_rfl) ?_
              intro wq hBx hGx hzx
              have hS : Below MR wr wq := below_new hS (by have := hS.size; have := HMR.out; omega) hGx hgx
              refine ⟨hS, ?_⟩
              refine anyH_tk (i := 12) (some 13) rfl (by kernel_rfl) (by kernel_rfl) (by kernel_rfl) (by kernel_rfl) (fun _ _ _ h => h) (yields_val (by kernel_rfl) (.int .i64 2) (fun w => by kernel_rfl)) hS ?_
              refine wpAnyH_done (by kernel_rfl) ?_ _
              simp only [Act.put, List.getElem_toArray, List.getElem_cons_succ, List.getElem_cons_zero, List.setIfInBounds_toArray, List.set_cons_succ, List.set_cons_zero]
              have hL := HSM.out wq hS
              have hX9 : ChB wq gx 55 (k : Int) mk := hBx
              have hO0 := hO9.under hL
              have hE9 := hE9.below hL
              have hC9 := hC9.under hL
              have hM9 := below_more hM9 hL hs9
              have hs9 : N ≤ wq.heap.size := Nat.le_trans hs9 hL.size
              have hgo9 : GO < wq.heap.size := Nat.lt_of_lt_of_le hgo9 hL.size
              have HX9 := Lib.hid hX9
              have HO9 := Lib.hid hO0
              have HE9 := Lib.hid hE9
              have HC9 := Lib.hid hC9
              have HM9 := Lib.hid hM9
              have HS9 := Lib.hid hs9
              have HG9 := Lib.hid hgo9
              clear hX9 hO0 hE9 hC9 hM9 hs9 hgo9 hL hS hBx hGx hzx hRx hgx HSM HOk HCk HWk HMR
              go_wp2_with (first | ((with_reducible show wpList _ _ _ _ _ wq); refine load_ch (w := wq) (by rfl) _ rfl gx 55 (k : Int) mk (by rfl) HX9.out HMK.out ?_) | ((with_reducible show wpList _ _ _ _ _ wq); refine store_ch (w := wq) rfl 55 _ _ rfl GO 55 (k : Int) mk (by rfl) (by rfl) (HO9.out.row HMK.out) HMK.out (by kernel_rfl) ?_; intro wt hB hG hz))
              refine ⟨⟨k + 1, HLT.out, by go_num, ?_, HC9.out.old hG (by have := HGO.out; simp; omega), HE0.out.under (below_new HM9.out HS9.out hG (Nat.le_of_lt HGO.out)) HN.out, below_new HM9.out HS9.out hG (Nat.le_of_lt HGO.out), by rw [hz]; exact HG9.out⟩, by have : k < LS := HLT.out; simp [intOf]; omega⟩
              exact .inr ⟨k, rfl, rfl, HLT.out, HOKb.out, HSZ.out, HOKk.out, mk, HMK.out, hB⟩
            · refine wpOp_alloc rfl (by kernel_rfl) 55 rfl (.agg (ch 0 (List.replicate 16 0))) 17 (fun _ => by kernel_rfl) (by kernel_rfl) ?_
              intro v1 hRx hGa hza
              obtain ⟨gx, egx⟩ : ∃ g, wr.drew.heap.size = g := ⟨_, rfl⟩
              rw [egx] at hRx ⊢
              have hgx : MR ≤ gx := by have := hS.size; have := HMR.out; omega
              have hS : Below MR wr v1 := below_none hS (by have := hS.size; have := HMR.out; omega) hGa
              refine ⟨hS, ?_⟩
              refine anyH_one 6 (by kernel_rfl) ?_
              refine opH_enter (some 57) rfl (by kernel_rfl) (by kernel_rfl) 33 #[(.slice Ak LK ck), .agg (ch (k : Int) mk), .string (gs ss k)] (fun v wq => v = .tuple #[.agg (ch (k : Int) mk), .int .i64 2] ∧ Below v1.heap.size v1 wq) (by kernel_rfl) ((HX.out v1 (HWk.out v1 hS)).mono fun e wq ⟨q1, q2⟩ => ⟨_, q1, rfl, q2⟩) ?_
              rintro v9 v2 ⟨rfl, hL⟩
              have hRx := hRx.below hL hRx.lt
              have hS : Below MR wr v2 := below_more hS hL (by have := hS.size; have := HMR.out; omega)
              refine ⟨hS, ?_⟩
              refine anyH_tk (i := 7) (some 50) rfl (by kernel_rfl) (by kernel_rfl) (by kernel_rfl) (by kernel_rfl) (fun _ _ _ h => h) (yields_val (by kernel_rfl) (.tuple #[.agg (ch (k : Int) mk), .int .i64 2]) (fun w => by kernel_rfl)) hS ?_
              refine anyH_tk (i := 8) (some 58) rfl (by kernel_rfl) (by kernel_rfl) (by kernel_rfl) (by kernel_rfl) (fun _ _ _ h => h) (yields_val (by kernel_rfl) (.agg (ch (k : Int) mk)) (fun w => by kernel_rfl)) hS ?_
              refine anyH_tk (i := 9) (some 59) rfl (by kernel_rfl) (by kernel_rfl) (by kernel_rfl) (by kernel_rfl) (fun _ _ _ h => h) (yields_val (by kernel_rfl) (.int .i64 2) (fun w => by kernel_rfl)) hS ?_
              refine wpAnyH_all (rs := [11]) (by kernel_rfl) (by decide) ?_
              intro i hi
              obtain rfl : i = 11 := by simpa using hi
              refine wpOp_store_ch rfl (by kernel_rfl) 55 _ _ rfl gx 55 (k : Int) mk (by kernel_rfl) (by kernel_rfl) hRx HMK.out (by kernel_rfl) ?_
              intro wq hBx hGx hzx
              have hS : Below MR wr wq := below_new hS (by have := hS.size; have := HMR.out; omega) hGx hgx
              refine ⟨hS, ?_⟩
              refine anyH_tk (i := 12) (some 13) rfl (by kernel_rfl) (by kernel_rfl) (by kernel_rfl) (by kernel_rfl) (fun _ _ _ h => h) (yields_val (by kernel_rfl) (.int .i64 2) (fun w => by kernel_rfl)) hS ?_
              refine wpAnyH_done (by kernel_rfl) ?_ _
              simp only [Act.put, List.getElem_toArray, List.getElem_cons_succ, List.getElem_cons_zero, List.setIfInBounds_toArray, List.set_cons_succ, List.set_cons_zero]
              have hL := HSM.out wq hS
              have hX9 : ChB wq gx 55 (k : Int) mk := hBx
              have hO0 := hO9.under hL
              have hE9 := hE9.below hL
              have hC9 := hC9.under hL
              have hM9 := below_more hM9 hL hs9
              have hs9 : N ≤ wq.heap.size := Nat.le_trans hs9 hL.size
              have hgo9 : GO < wq.heap.size := Nat.lt_of_lt_of_le hgo9 hL.size
              have HX9 := Lib.hid hX9
              have HO9 := Lib.hid hO0
              have HE9 := Lib.hid hE9
              have HC9 := Lib.hid hC9
              have HM9 := Lib.hid hM9
              have HS9 := Lib.hid hs9
              have HG9 := Lib.hid hgo9
              clear hX9 hO0 hE9 hC9 hM9 hs9 hgo9 hL hS hBx hGx hzx hRx hgx HSM HOk HCk HWk HMR
              go_wp2_with (first | ((with_reducible show wpList _ _ _ _ _ wq); refine load_ch (w := wq) (by rfl) _ rfl gx 55 (k : Int) mk (by rfl) HX9.out HMK.out ?_) | ((with_reducible show wpList _ _ _ _ _ wq); refine store_ch (w := wq) rfl 55 _ _ rfl GO 55 (k : Int) mk (by rfl) (by rfl) (HO9.out.row HMK.out) HMK.out (by kernel_rfl) ?_; intro wt hB hG hz))
              refine ⟨⟨k + 1, HLT.out, by go_num, ?_, HC9.out.old hG (by have := HGO.out; simp; omega), HE0.out.under (below_new HM9.out HS9.out hG (Nat.le_of_lt HGO.out)) HN.out, below_new HM9.out HS9.out hG (Nat.le_of_lt HGO.out), by rw [hz]; exact HG9.out⟩, by have : k < LS := HLT.out; simp [intOf]; omega⟩
              exact .inr ⟨k, rfl, rfl, HLT.out, HOKb.out, HSZ.out, HOKk.out, mk, HMK.out, hB⟩
        · have i2 : decide ((200 : Int) < ((gs ss k).size : Int)) = true := by simp; omega
          have HM9 := Lib.hid hM9
          clear hO9 hC9 hE9 hok hM9
          go_wp2_with fail
          go_ret
          exact ⟨rfl, by first | exact HM9.out | (rw [HN.out]; exact HM9.out)⟩
      · have hkL : k = LS := by omega
        have hik2 : ¬ (k : Int) < (LS : Int) := by omega
        rw [hkL] at hO9 hok
        rw [show ss.take LS = ss from List.take_of_length_le (by rw [ELS.out]; omega), EM.out] at hO9
        have HOK := Lib.hid (show ∀ j, j < ss.length → key.length = 16 ∧ okNote (gs ss j) = true from fun j hj => hok j (by rw [← ELS.out]; exact hj))
        clear hlt hkL hok
        cases own
        · obtain ⟨b, hb⟩ : ∃ b, (((LS : Nat) : Int) == z && M == m) = b := ⟨_, rfl⟩
          have HB2 := Lib.hid hb
          have HB := Lib.hid (show (((ss.length : Nat) : Int) == z && pmarks key ss 0 (List.replicate 16 0) == m) = b by rw [ELS.out, EM.out]; exact hb)
          clear hb
          have E_100 := Lib.hid hE9
          have C_100 := Lib.hid hC9
          have O_100 := Lib.hid hO9
          have hM100 := hM9
          have hs100 := hs9
          clear hE9 hC9 hO9 hM9 hs9
          go_wp2_with (first | ((with_reducible show wpList _ _ _ _ _ wr); refine load_ch (w := wr) (by rfl) _ rfl N 55 z m (by rfl) C_100.out HM.out ?_) | (go_at_call 37; (with_reducible show Calls _ _ _ wr _); refine (Check_end _ _ key ss z m b wr (HK.out wr hM100) (HSS.out wr hM100) HL20.out HM.out HOK.out HB.out).mono ?_; rintro e w101 ⟨rfl, hL⟩; have hM101 : Below N w w101 := below_more hM100 hL hs100; have hs101 : N ≤ w101.heap.size := Nat.le_trans hs100 (hL).size; have E_101 := Lib.hid (E_100.out.below hL); clear E_100; have C_101 := Lib.hid (C_100.out.under hL); clear C_100; have O_101 := Lib.hid (O_100.out.under hL); clear O_100; clear hM100 hs100; clear hL) | ((with_reducible show wpList _ _ _ _ _ w101); refine load_ch (w := w101) (by rfl) _ rfl GO 55 (LS : Int) M (by rfl) O_101.out HMM.out ?_) | ((with_reducible show wpList _ _ _ _ _ w101); refine load_ch (w := w101) (by rfl) _ rfl N 55 z m (by rfl) C_101.out HM.out ?_) | ((with_reducible show wpList _ _ _ _ _ w101); refine op_eqlc (w := w101) (by rfl) cht _ _ _ rfl (ch (LS : Int) M) (ch z m) (by rfl) (by rfl) (by kernel_rfl) b (fun w => (run_eql_ch w _ _ _ _ HMM.out HM.out).trans (by rw [HB2.out])) ?_; clear HB HB2; cases b) | (go_at_call 19; (with_reducible show Calls _ _ _ w101 _); refine (Code_any [] 4 _ w101 E_101.out rfl).mono ?_; rintro e w102 ⟨rfl, hL⟩; have hM102 : Below N w w102 := below_more hM101 hL hs101; have hs102 : N ≤ w102.heap.size := Nat.le_trans hs101 (hL).size; have E_102 := Lib.hid (E_101.out.below hL); clear E_101; have C_102 := Lib.hid (C_101.out.under hL); clear C_101; have O_102 := Lib.hid (O_101.out.under hL); clear O_101; clear hM101 hs101; clear hL))
          · go_ret
            exact ⟨rfl, by first | exact hM102 | (rw [HN.out]; exact hM102) | exact hM101 | (rw [HN.out]; exact hM101)⟩
          · go_ret
            exact ⟨rfl, by first | exact hM102 | (rw [HN.out]; exact hM102) | exact hM101 | (rw [HN.out]; exact hM101)⟩
        · have HBT := Lib.hid (show (((ss.length : Nat) : Int) == (LS : Int) && pmarks key ss 0 (List.replicate 16 0) == M) = true by rw [ELS.out, EM.out]; simp)
          have E_100 := Lib.hid hE9
          have C_100 := Lib.hid hC9
          have O_100 := Lib.hid hO9
          have hM100 := hM9
          have hs100 := hs9
          clear hE9 hC9 hO9 hM9 hs9
          go_wp2_with (first | ((with_reducible show wpList _ _ _ _ _ wr); refine load_ch (w := wr) (by rfl) _ rfl GO 55 (LS : Int) M (by rfl) O_100.out HMM.out ?_) | ((with_reducible show wpList _ _ _ _ _ wr); refine store_ch (w := wr) rfl 55 _ _ rfl N 55 (LS : Int) M (by rfl) (by rfl) (C_100.out.row HM.out) HMM.out (by kernel_rfl) ?_; intro w101 hB hG hz; have hM101 : Below N w w101 := below_new hM100 hs100 hG (Nat.le_refl _); have hs101 : N ≤ w101.heap.size := (by rw [hz]; exact hs100); have E_101 := Lib.hid (HE0.out.under hM101 HN.out); have C_101 := Lib.hid hB; have O_101 := Lib.hid (O_100.out.old hG (by have := HGO.out; simp; omega)); clear E_100 C_100 O_100 hM100 hs100 hB hG hz) | ((with_reducible show wpList _ _ _ _ _ w101); refine load_ch (w := w101) (by rfl) _ rfl N 55 (LS : Int) M (by rfl) C_101.out HMM.out ?_) | (go_at_call 37; (with_reducible show Calls _ _ _ w101 _); refine (Check_end _ _ key ss (LS : Int) M true w101 (HK.out w101 hM101) (HSS.out w101 hM101) HL20.out HMM.out HOK.out HBT.out).mono ?_; rintro e w102 ⟨rfl, hL⟩; have hM102 : Below N w w102 := below_more hM101 hL hs101; have hs102 : N ≤ w102.heap.size := Nat.le_trans hs101 (hL).size; have E_102 := Lib.hid (E_101.out.below hL); clear E_101; have C_102 := Lib.hid (C_101.out.under hL); clear C_101; have O_102 := Lib.hid (O_101.out.under hL); clear O_101; clear hM101 hs101; clear hL) | ((with_reducible show wpList _ _ _ _ _ w102); refine load_ch (w := w102) (by rfl) _ rfl GO 55 (LS : Int) M (by rfl) O_102.out HMM.out ?_) | ((with_reducible show wpList _ _ _ _ _ w102); refine load_ch (w := w102) (by rfl) _ rfl N 55 (LS : Int) M (by rfl) C_102.out HMM.out ?_) | ((with_reducible show wpList _ _ _ _ _ w102); refine op_eqlc (w := w102) (by rfl) cht _ _ _ rfl (ch (LS : Int) M) (ch (LS : Int) M) (by rfl) (by rfl) (by kernel_rfl) true (fun w => (run_eql_ch w _ _ _ _ HMM.out HMM.out).trans (by simp)) ?_))
          go_ret
          exact ⟨rfl, by first | exact hM102 | (rw [HN.out]; exact hM102)⟩
    · have HBK := Lib.hid hok
      have HBL := Lib.hid (show B < ss.length by rw [ELS.out]; exact hBL)
      have HBS := Lib.hid (show (gs ss B).size ≤ 140737488351232 by omega)
      have HBN := Lib.hid hno
      have HMB := Lib.hid hmm
      have hB0 : (0 : Int) ≤ (B : Int) := by omega
      have hB1 : ¬ (B : Int) < 0 := by omega
      have hB2 : decide ((0 : Int) ≤ (B : Int)) = true := by simp
      clear hok hsz hno hmm hBL hkB
      by_cases hlt : k < LS
      · have hik : (k : Int) < (LS : Int) := by omega
        clear hlt hk
        cases own
        · have E_100 := Lib.hid hE9
          have C_100 := Lib.hid hC9
          have O_100 := Lib.hid hO9
          have hM100 := hM9
          have hs100 := hs9
          clear hE9 hC9 hO9 hM9 hs9
          go_wp2_with (first | ((with_reducible show wpList _ _ _ _ _ wr); refine load_ch (w := wr) (by rfl) _ rfl N 55 z m (by rfl) C_100.out HM.out ?_) | (go_at_call 37; (with_reducible show Calls _ _ _ wr _); refine (Check_bad _ _ key ss z m B wr (HK.out wr hM100) (HSS.out wr hM100) HL20.out HM.out HBK.out HBL.out HBS.out HBN.out).mono ?_; rintro e w101 ⟨ve, rfl, hV, hL⟩; have hM101 : Below N w w101 := below_more hM100 hL hs100; have hs101 : N ≤ w101.heap.size := Nat.le_trans hs100 (hL).size; have E_101 := Lib.hid (E_100.out.below hL); clear E_100; have C_101 := Lib.hid (C_100.out.under hL); clear C_100; have O_101 := Lib.hid (O_100.out.under hL); clear O_100; clear hM100 hs100; have V_101 := Lib.hid (hV); clear hL hV) | (go_at_call 19; (with_reducible show Calls _ _ _ w101 _); refine (Code_any [(B : Int)] 2 _ w101 E_101.out V_101.out).mono ?_; rintro e w102 ⟨rfl, hL⟩; have hM102 : Below N w w102 := below_more hM101 hL hs101; have hs102 : N ≤ w102.heap.size := Nat.le_trans hs101 (hL).size; have E_102 := Lib.hid (E_101.out.below hL); clear E_101; have C_102 := Lib.hid (C_101.out.under hL); clear C_101; have O_102 := Lib.hid (O_101.out.under hL); clear O_101; have V_102 := Lib.hid (V_101.out.below hL); clear V_101; clear hM101 hs101; clear hL) | (go_at_call 21; (with_reducible show Calls _ _ _ w102 _); refine (At_yes (B : Int) [] 2 _ w102 E_102.out V_102.out).mono ?_; rintro e w103 ⟨rfl, hL⟩; have hM103 : Below N w w103 := below_more hM102 hL hs102; have hs103 : N ≤ w103.heap.size := Nat.le_trans hs102 (hL).size; have E_103 := Lib.hid (E_102.out.below hL); clear E_102; have C_103 := Lib.hid (C_102.out.under hL); clear C_102; have O_103 := Lib.hid (O_102.out.under hL); clear O_102; have V_103 := Lib.hid (V_102.out.below hL); clear V_102; clear hM102 hs102; clear hL))
          go_ret
          exact ⟨rfl, by first | exact hM103 | (rw [HN.out]; exact hM103)⟩
        · have E_100 := Lib.hid hE9
          have C_100 := Lib.hid hC9
          have O_100 := Lib.hid hO9
          have hM100 := hM9
          have hs100 := hs9
          clear hE9 hC9 hO9 hM9 hs9
          go_wp2_with (first | ((with_reducible show wpList _ _ _ _ _ wr); refine load_ch (w := wr) (by rfl) _ rfl GO 55 (B : Int) mm (by rfl) O_100.out HMB.out ?_) | ((with_reducible show wpList _ _ _ _ _ wr); refine store_ch (w := wr) rfl 55 _ _ rfl N 55 (B : Int) mm (by rfl) (by rfl) (C_100.out.row HM.out) HMB.out (by kernel_rfl) ?_; intro w101 hB hG hz; have hM101 : Below N w w101 := below_new hM100 hs100 hG (Nat.le_refl _); have hs101 : N ≤ w101.heap.size := (by rw [hz]; exact hs100); have E_101 := Lib.hid (HE0.out.under hM101 HN.out); have C_101 := Lib.hid hB; have O_101 := Lib.hid (O_100.out.old hG (by have := HGO.out; simp; omega)); clear E_100 C_100 O_100 hM100 hs100 hB hG hz) | ((with_reducible show wpList _ _ _ _ _ w101); refine load_ch (w := w101) (by rfl) _ rfl N 55 (B : Int) mm (by rfl) C_101.out HMB.out ?_) | (go_at_call 37; (with_reducible show Calls _ _ _ w101 _); refine (Check_bad _ _ key ss (B : Int) mm B w101 (HK.out w101 hM101) (HSS.out w101 hM101) HL20.out HMB.out HBK.out HBL.out HBS.out HBN.out).mono ?_; rintro e w102 ⟨ve, rfl, hV, hL⟩; have hM102 : Below N w w102 := below_more hM101 hL hs101; have hs102 : N ≤ w102.heap.size := Nat.le_trans hs101 (hL).size; have E_102 := Lib.hid (E_101.out.below hL); clear E_101; have C_102 := Lib.hid (C_101.out.under hL); clear C_101; have O_102 := Lib.hid (O_101.out.under hL); clear O_101; clear hM101 hs101; have V_102 := Lib.hid (hV); clear hL hV) | (go_at_call 19; (with_reducible show Calls _ _ _ w102 _); refine (Code_any [(B : Int)] 2 _ w102 E_102.out V_102.out).mono ?_; rintro e w103 ⟨rfl, hL⟩; have hM103 : Below N w w103 := below_more hM102 hL hs102; have hs103 : N ≤ w103.heap.size := Nat.le_trans hs102 (hL).size; have E_103 := Lib.hid (E_102.out.below hL); clear E_102; have C_103 := Lib.hid (C_102.out.under hL); clear C_102; have O_103 := Lib.hid (O_102.out.under hL); clear O_102; have V_103 := Lib.hid (V_102.out.below hL); clear V_102; clear hM102 hs102; clear hL) | (go_at_call 21; (with_reducible show Calls _ _ _ w103 _); refine (At_yes (B : Int) [] 2 _ w103 E_103.out V_103.out).mono ?_; rintro e w104 ⟨rfl, hL⟩; have hM104 : Below N w w104 := below_more hM103 hL hs103; have hs104 : N ≤ w104.heap.size := Nat.le_trans hs103 (hL).size; have E_104 := Lib.hid (E_103.out.below hL); clear E_103; have C_104 := Lib.hid (C_103.out.under hL); clear C_103; have O_104 := Lib.hid (O_103.out.under hL); clear O_103; have V_104 := Lib.hid (V_103.out.below hL); clear V_103; clear hM103 hs103; clear hL))
          go_ret
          exact ⟨rfl, by first | exact hM104 | (rw [HN.out]; exact hM104)⟩
      · have hik : ¬ (k : Int) < (LS : Int) := by omega
        clear hlt hk
        cases own
        · have E_100 := Lib.hid hE9
          have C_100 := Lib.hid hC9
          have O_100 := Lib.hid hO9
          have hM100 := hM9
          have hs100 := hs9
          clear hE9 hC9 hO9 hM9 hs9
          go_wp2_with (first | ((with_reducible show wpList _ _ _ _ _ wr); refine load_ch (w := wr) (by rfl) _ rfl N 55 z m (by rfl) C_100.out HM.out ?_) | (go_at_call 37; (with_reducible show Calls _ _ _ wr _); refine (Check_bad _ _ key ss z m B wr (HK.out wr hM100) (HSS.out wr hM100) HL20.out HM.out HBK.out HBL.out HBS.out HBN.out).mono ?_; rintro e w101 ⟨ve, rfl, hV, hL⟩; have hM101 : Below N w w101 := below_more hM100 hL hs100; have hs101 : N ≤ w101.heap.size := Nat.le_trans hs100 (hL).size; have E_101 := Lib.hid (E_100.out.below hL); clear E_100; have C_101 := Lib.hid (C_100.out.under hL); clear C_100; have O_101 := Lib.hid (O_100.out.under hL); clear O_100; clear hM100 hs100; have V_101 := Lib.hid (hV); clear hL hV) | (go_at_call 19; (with_reducible show Calls _ _ _ w101 _); refine (Code_any [(B : Int)] 2 _ w101 E_101.out V_101.out).mono ?_; rintro e w102 ⟨rfl, hL⟩; have hM102 : Below N w w102 := below_more hM101 hL hs101; have hs102 : N ≤ w102.heap.size := Nat.le_trans hs101 (hL).size; have E_102 := Lib.hid (E_101.out.below hL); clear E_101; have C_102 := Lib.hid (C_101.out.under hL); clear C_101; have O_102 := Lib.hid (O_101.out.under hL); clear O_101; have V_102 := Lib.hid (V_101.out.below hL); clear V_101; clear hM101 hs101; clear hL) | (go_at_call 21; (with_reducible show Calls _ _ _ w102 _); refine (At_yes (B : Int) [] 2 _ w102 E_102.out V_102.out).mono ?_; rintro e w103 ⟨rfl, hL⟩; have hM103 : Below N w w103 := below_more hM102 hL hs102; have hs103 : N ≤ w103.heap.size := Nat.le_trans hs102 (hL).size; have E_103 := Lib.hid (E_102.out.below hL); clear E_102; have C_103 := Lib.hid (C_102.out.under hL); clear C_102; have O_103 := Lib.hid (O_102.out.under hL); clear O_102; have V_103 := Lib.hid (V_102.out.below hL); clear V_102; clear hM102 hs102; clear hL))
          go_ret
          exact ⟨rfl, by first | exact hM103 | (rw [HN.out]; exact hM103)⟩
        · have E_100 := Lib.hid hE9
          have C_100 := Lib.hid hC9
          have O_100 := Lib.hid hO9
          have hM100 := hM9
          have hs100 := hs9
          clear hE9 hC9 hO9 hM9 hs9
          go_wp2_with (first | ((with_reducible show wpList _ _ _ _ _ wr); refine load_ch (w := wr) (by rfl) _ rfl GO 55 (B : Int) mm (by rfl) O_100.out HMB.out ?_) | ((with_reducible show wpList _ _ _ _ _ wr); refine store_ch (w := wr) rfl 55 _ _ rfl N 55 (B : Int) mm (by rfl) (by rfl) (C_100.out.row HM.out) HMB.out (by kernel_rfl) ?_; intro w101 hB hG hz; have hM101 : Below N w w101 := below_new hM100 hs100 hG (Nat.le_refl _); have hs101 : N ≤ w101.heap.size := (by rw [hz]; exact hs100); have E_101 := Lib.hid (HE0.out.under hM101 HN.out); have C_101 := Lib.hid hB; have O_101 := Lib.hid (O_100.out.old hG (by have := HGO.out; simp; omega)); clear E_100 C_100 O_100 hM100 hs100 hB hG hz) | ((with_reducible show wpList _ _ _ _ _ w101); refine load_ch (w := w101) (by rfl) _ rfl N 55 (B : Int) mm (by rfl) C_101.out HMB.out ?_) | (go_at_call 37; (with_reducible show Calls _ _ _ w101 _); refine (Check_bad _ _ key ss (B : Int) mm B w101 (HK.out w101 hM101) (HSS.out w101 hM101) HL20.out HMB.out HBK.out HBL.out HBS.out HBN.out).mono ?_; rintro e w102 ⟨ve, rfl, hV, hL⟩; have hM102 : Below N w w102 := below_more hM101 hL hs101; have hs102 : N ≤ w102.heap.size := Nat.le_trans hs101 (hL).size; have E_102 := Lib.hid (E_101.out.below hL); clear E_101; have C_102 := Lib.hid (C_101.out.under hL); clear C_101; have O_102 := Lib.hid (O_101.out.under hL); clear O_101; clear hM101 hs101; have V_102 := Lib.hid (hV); clear hL hV) | (go_at_call 19; (with_reducible show Calls _ _ _ w102 _); refine (Code_any [(B : Int)] 2 _ w102 E_102.out V_102.out).mono ?_; rintro e w103 ⟨rfl, hL⟩; have hM103 : Below N w w103 := below_more hM102 hL hs102; have hs103 : N ≤ w103.heap.size := Nat.le_trans hs102 (hL).size; have E_103 := Lib.hid (E_102.out.below hL); clear E_102; have C_103 := Lib.hid (C_102.out.under hL); clear C_102; have O_103 := Lib.hid (O_102.out.under hL); clear O_102; have V_103 := Lib.hid (V_102.out.below hL); clear V_102; clear hM102 hs102; clear hL) | (go_at_call 21; (with_reducible show Calls _ _ _ w103 _); refine (At_yes (B : Int) [] 2 _ w103 E_103.out V_103.out).mono ?_; rintro e w104 ⟨rfl, hL⟩; have hM104 : Below N w w104 := below_more hM103 hL hs103; have hs104 : N ≤ w104.heap.size := Nat.le_trans hs103 (hL).size; have E_104 := Lib.hid (E_103.out.below hL); clear E_103; have C_104 := Lib.hid (C_103.out.under hL); clear C_103; have O_104 := Lib.hid (O_103.out.under hL); clear O_103; have V_104 := Lib.hid (V_103.out.below hL); clear V_103; clear hM103 hs103; clear hL))
          go_ret
          exact ⟨rfl, by first | exact hM104 | (rw [HN.out]; exact hM104)⟩
end Go.Proofs.YtpfmhohldfnhmaaGreatDoor
set_option linter.unusedVariables false
namespace Go.Proofs.YtpfmhohldfnhmaaGreatDoor
open Go Go.RowKit Lk
theorem AuditChecks_any (vk : Value) (key : List UInt8) (vs : Value) (ss : List ByteArray) (z : Int) (m : List UInt8) (own : Bool) (w : World) (hE : Et w) (hk : SlB w vk key) (hs : SlS w vs ss) (hm : m.length = 16) (hz : (Lit.int .i64 z).wf = true) :
    Calls Tryz.prog 6 #[vk, vs, .agg (ch z m), .bool own] w fun e w' => e = .returned (.bool true) ∧ Below w.heap.size w w' := by
  by_cases b0 : key.length ≤ 100
  case neg => exact AC_f0 vk vs key ss z m own w hE hk hs hm b0
  by_cases b1 : ss.length ≤ 20
  case neg => exact AC_f1 vk vs key ss z m own w hE hk hs hm b0 b1
  by_cases r0 : 0 ≤ z
  case neg => exact AC_f2 vk vs key ss z m own w hE hk hs hm b0 b1 r0
  by_cases r1 : z ≤ 4294967295
  case neg => exact AC_f3 vk vs key ss z m own w hE hk hs hm b0 b1 r0 r1
  exact AC_main vk vs key ss z m own w hE hk hs hm b0 b1 r0 r1
end Go.Proofs.YtpfmhohldfnhmaaGreatDoor
set_option linter.unusedVariables false
set_option linter.unusedSimpArgs false
namespace Lk
open Go Go.RowKit
/-- a slice of whole numbers as it is read -/
def IsRow (k : IntKind) (w : World) (a : Option Addr) (len cap : Nat) (zs : List Int) : Prop :=
  (a = none ∧ len = 0 ∧ cap = 0 ∧ zs = []) ∨
  ∃ x, a = some x ∧ len ≤ cap ∧ cap ≤ maxLen ∧ zs.length = cap ∧ (∀ i, i < zs.length → w.cell? (x.add i) = some (.int k (zs.getD i 0))) ∧ ∀ n ∈ zs, (Lit.int k n).wf = true
theorem u8_of_wf {n : Int} (h : (Lit.int .u8 n).wf = true) : n = bv (UInt8.ofNat n.toNat) := by
  obtain ⟨a, rfl⟩ := open_u8 h
  unfold bv
  simp
theorem slB_of_row {w : World} {a : Option Addr} {len cap : Nat} {zs : List Int} (h : IsRow .u8 w a len cap zs) : ∃ l : List UInt8, l.length = len ∧ SlB w (.slice a len cap) l := by
  rcases h with ⟨rfl, rfl, rfl, rfl⟩ | ⟨x, rfl, h1, h2, h3, h4, h5⟩
  · exact ⟨[], rfl, none, 0, rfl, fun _ => rfl, Nat.le_refl _, Nat.zero_le _, fun h => by omega⟩
  · have hl : ((zs.take len).map fun z => UInt8.ofNat z.toNat).length = len := by simp; omega
    refine ⟨(zs.take len).map fun z => UInt8.ofNat z.toNat, hl, some x, cap, by rw [hl], fun h => (by cases h), by rw [hl]; exact h1, h2, fun hc => ?_⟩
    have hx : x.spot = none := by
      have := h4 0 (by omega)
      have e : x.add 0 = x := by simp [Addr.add]
      rw [e] at this
      unfold World.cell? at this
      split at this
      · split at this
        · cases this
        · rename_i hs; simpa using hs
      · cases this
    obtain ⟨g, o, s⟩ := x
    cases hx
    refine ⟨g, o, rfl, fun k hk => ?_⟩
    rw [hl] at hk
    have hc := h4 k (by omega)
    have ea : (⟨g, o, none⟩ : Addr).add k = ⟨g, o + k, none⟩ := by unfold Addr.add; split <;> simp_all
    rw [ea] at hc
    rw [hc]
    have hm : zs.getD k 0 ∈ zs := by
      have : k < zs.length := by omega
      simp [this]
    have := u8_of_wf (h5 _ hm)
    have e : g8 ((zs.take len).map fun z => UInt8.ofNat z.toNat) k = UInt8.ofNat (zs.getD k 0).toNat := by
      unfold g8
      have : k < zs.length := by omega
      simp [List.getElem?_take, hk, this]
    rw [e, ← this]
section
variable {P : Program} {H : Type} {enc : TypeId × Value → H}
theorem open_slice_u8 {t e : TypeId} {W : World} {a : Option Addr} {len cap : Nat} {d : DataW H} {ps : List MemPlace} (ht : P.underlying t = some (.slice e)) (he : P.underlying e = some (.int .u8)) (hc : P.cellsOf e = 1)
    (h : DataW.Trod enc P W 0 (fun _ => true) true t (.slice a len cap) d ps) : ∃ l : List UInt8, l.length = len ∧ SlB W (.slice a len cap) l := by
  obtain ⟨zs, hz⟩ : ∃ zs, IsRow .u8 W a len cap zs := by
    obtain ⟨fuel, hf⟩ := h
    rcases Go.ChangeShapes.open_ints ht he hc hf with ⟨hcs, _⟩ | ⟨x, l, c, zs, hcs, _, hl, hm, hz, _, hcell, hwz⟩
    · simp [Value.cells] at hcs
      obtain ⟨rfl, rfl, rfl⟩ := hcs
      exact ⟨[], .inl ⟨rfl, rfl, rfl, rfl⟩⟩
    · simp [Value.cells] at hcs
      obtain ⟨rfl, rfl, rfl⟩ := hcs
      exact ⟨zs, .inr ⟨_, rfl, hl, hm, by simpa using hz, hcell, hwz⟩⟩
  exact slB_of_row hz
/-- an array of bytes -/
theorem open_arr_u8 {t e n : Nat} {W : World} {r : Reach} {base : Nat} {v : Value} (ht : P.underlying t = some (.array n e)) (he : P.underlying e = some (.int .u8)) (hc : P.cellsOf t = n) (hct : P.cellTypes P.depth t = some (List.replicate n e)) (hn : 0 < n)
    (h : Value.okWide P W r base t v) : ∃ l : List UInt8, l.length = n ∧ v = .agg (Bs l) := by
  simp only [Value.okWide, ht] at h
  obtain ⟨cs, rfl, hsz, ts, hts, _, hcell⟩ := h
  rw [hct] at hts
  cases hts
  rw [hc] at hsz
  refine ⟨cs.toList.map fun v => match v with | .int _ z => UInt8.ofNat z.toNat | _ => 0, by simp [hsz], ?_⟩
  congr 1
  apply Array.ext
  · simp [Bs]
  · intro i h1 h2
    obtain ⟨u, hu, hok⟩ := hcell i cs[i] (by simp [h1])
    have hue : u = e := by
      rw [List.getElem?_replicate] at hu
      split at hu
      · cases hu; rfl
      · cases hu
    subst hue
    simp only [Cell.okWide, he] at hok
    simp only [Bs, List.map_map, List.getElem_toArray, List.getElem_map, Function.comp_apply, Array.getElem_toList]
    cases hv : cs[i] with
    | int k z =>
      rw [hv] at hok
      simp only [Cell.ok, he] at hok
      obtain ⟨rfl, hw⟩ := hok
      have hw' : (Lit.int .u8 z).wf = true := by
        unfold Lit.wf
        rw [Bool.and_eq_true]
        exact ⟨decide_eq_true hw.1, decide_eq_true hw.2⟩
      simp only [← u8_of_wf hw']
    | _ => rw [hv] at hok; simp [Cell.ok, he] at hok
end
end Lk
set_option linter.unusedVariables false
set_option linter.unusedSimpArgs false
namespace Lk
open Go Go.RowKit Go.ChangeShapes Go.WideShapes
theorem bl_of (cs : List Value) (h : ∀ v ∈ cs, ∃ z, v = .int .u8 z ∧ (Lit.int .u8 z).wf = true) : ∃ l : List UInt8, l.length = cs.length ∧ cs = Bl l := by
  induction cs with
  | nil => exact ⟨[], rfl, rfl⟩
  | cons v t ih =>
    obtain ⟨l, hl, rfl⟩ := ih fun u hu => h u (List.mem_cons_of_mem _ hu)
    obtain ⟨z, rfl, hz⟩ := h v List.mem_cons_self
    refine ⟨UInt8.ofNat z.toNat :: l, by simpa using hl, ?_⟩
    unfold Bl
    rw [List.map_cons, ← u8_of_wf hz]
theorem wf_of_has {k : IntKind} {z : Int} (h : k.has z) : (Lit.int k z).wf = true := by
  unfold Lit.wf
  rw [Bool.and_eq_true]
  exact ⟨decide_eq_true h.1, decide_eq_true h.2⟩
section
variable {P : Program}
theorem open_row {t : TypeId} {ts : List TypeId} {W : World} {r : Reach} {base : Nat} {v : Value} (ht : (∃ f, P.underlying t = some (.struct f)) ∨ ∃ n e, P.underlying t = some (.array n e)) (hct : P.cellTypes P.depth t = some ts) (hc : P.cellsOf t = ts.length)
    (h : Value.okWide P W r base t v) : ∃ cs : List Value, v = .agg cs.toArray ∧ cs.length = ts.length ∧ ∀ (i : Nat) (u : TypeId) (x : Value), ts[i]? = some u → cs[i]? = some x → Cell.okWide P W r base u x := by
  have h' : ∃ cs, v = .agg cs ∧ cs.size = P.cellsOf t ∧ Row.okWide P W r base t cs := by
    rcases ht with ⟨f, ht⟩ | ⟨n, e, ht⟩ <;> simpa only [Value.okWide, ht] using h
  obtain ⟨cs, rfl, hsz, ts', hts, _, hcell⟩ := h'
  rw [hct] at hts
  cases hts
  refine ⟨cs.toList, rfl, by simpa [hc] using hsz, fun i u x hu hx => ?_⟩
  obtain ⟨u', hu', hok⟩ := hcell i x (by simpa using hx)
  have hi := (List.getElem?_eq_some_iff.1 hu).1
  rw [Nat.mod_eq_of_lt hi, hu] at hu'
  cases hu'
  exact hok
theorem cell_int {t : TypeId} {k : IntKind} {W : World} {r : Reach} {base : Nat} {v : Value} (ht : P.underlying t = some (.int k)) (h : Cell.okWide P W r base t v) : ∃ z, v = .int k z ∧ (Lit.int k z).wf = true := by
  simp only [Cell.okWide, ht] at h
  cases v with
  | int k' z =>
    simp only [Cell.ok, ht] at h
    obtain ⟨rfl, hw⟩ := h
    exact ⟨z, rfl, wf_of_has hw⟩
  | _ => simp [Cell.ok, ht] at h
theorem cell_bool {t : TypeId} {W : World} {r : Reach} {base : Nat} {v : Value} (ht : P.underlying t = some .bool) (h : Cell.okWide P W r base t v) : ∃ b, v = .bool b := by
  simp only [Cell.okWide, ht] at h
  cases v with
  | bool b => exact ⟨b, rfl⟩
  | _ => simp [Cell.ok, ht] at h
theorem u8_run {t : TypeId} {W : World} {r : Reach} {base : Nat} (ht : P.underlying t = some (.int .u8)) {cs : List Value} {ts : List TypeId} (hl : cs.length = ts.length) (h : ∀ (i : Nat) (u : TypeId) (x : Value), ts[i]? = some u → cs[i]? = some x → Cell.okWide P W r base u x) (o n : Nat) (hts : (ts.drop o).take n = List.replicate n t) : ∃ l : List UInt8, l.length = n ∧ (cs.drop o).take n = Bl l := by
  have hn : ((ts.drop o).take n).length = n := by rw [hts, List.length_replicate]
  have hlen : ((cs.drop o).take n).length = n := by
    rw [List.length_take, List.length_drop] at hn ⊢
    omega
  obtain ⟨l, h1, h2⟩ := bl_of ((cs.drop o).take n) fun v hv => by
    obtain ⟨i, hi, rfl⟩ := List.mem_iff_getElem.1 hv
    have hi' : i < n := by omega
    have e1 : cs[o + i]? = some ((cs.drop o).take n)[i] := by
      rw [← List.getElem?_drop, ← List.getElem?_take_of_lt hi', List.getElem?_eq_getElem hi]
    have e2 : ts[o + i]? = some t := by
      rw [← List.getElem?_drop, ← List.getElem?_take_of_lt hi', hts, List.getElem?_replicate, if_pos hi']
    exact cell_int ht (h _ _ _ e2 e1)
  exact ⟨l, by rw [h1, hlen], h2⟩
theorem getq_at {α : Type} (cs : List α) (i : Nat) (h : i < cs.length) : ∃ x, cs[i]? = some x := ⟨_, List.getElem?_eq_getElem h⟩
end
end Lk
set_option linter.unusedVariables false
set_option linter.unusedSimpArgs false
namespace Go.Proofs.YtpfmhohldfnhmaaGreatDoor
open Go Go.RowKit Lk Go.ChangeShapes Go.WideShapes
theorem cht_cells : Tryz.prog.cellTypes Tryz.prog.depth cht = some (3 :: List.replicate 16 5) := by kernel_rfl
set_option maxRecDepth 100000 in
theorem open_chain {W : World} {r : Reach} {base : Nat} {v : Value} (h : Value.okWide Tryz.prog W r base cht v) : ∃ (z : Int) (m : List UInt8), v = .agg (ch z m) ∧ m.length = 16 ∧ (Lit.int .i64 z).wf = true := by
  obtain ⟨cs, rfl, hl, hc⟩ := open_row (.inl cht_d) cht_cells (by kernel_rfl) h
  have hl' : cs.length = 17 := hl
  obtain ⟨m, hm, em⟩ := u8_run (t := 5) (by kernel_rfl) hl hc 1 16 (by decide)
  obtain ⟨x0, g0⟩ := getq_at cs 0 (by omega)
  obtain ⟨z, rfl, hz⟩ := cell_int (t := 3) (k := .i64) (by kernel_rfl) (hc 0 _ _ (by decide) g0)
  refine ⟨z, m, ?_, hm, hz⟩
  have e1 : (cs.drop 1).take 16 = cs.drop 1 := List.take_of_length_le (by rw [List.length_drop]; omega)
  rw [e1] at em
  have e2 : cs = .int .i64 z :: cs.drop 1 := by
    cases cs with
    | nil => simp at hl'
    | cons x t => simp at g0; rw [g0]; rfl
  rw [e2, em]
  simp [ch, Bs, Bl]
end Go.Proofs.YtpfmhohldfnhmaaGreatDoor
set_option linter.unusedVariables false
namespace Go.Proofs.YtpfmhohldfnhmaaGreatDoor
open Go.ChangeShapes Go.WideShapes Go.RowKit
theorem ownKnobNone : ownKnob Tryz.prog.godebug = none := by kernel_rfl
theorem laidOutAll : laidOutB Tryz.prog = true := by kernel_rfl
theorem fct_laid : laidOutB Tryz.checked.prog = true := by kernel_rfl
theorem fct_maps : mapsRowed Tryz.checked.prog = true := by kernel_rfl
theorem fct_main : Tryz.pinned.checked.prog.mainIs = some (true, "3a05d988fa47357c235f95377bda5449c7939e0ad58df945c3a7c09d3fa33a44".toList) := by kernel_rfl
theorem fct_looks : true = Tryz.pinned.checked.prog.looks [] := by kernel_rfl
def laidList : List (String × DataW Unit) := [("errors.errorType", Rows.laid_errors_errorType)]
theorem et_g : Tryz.prog.globalNamed "errors.errorType" = some 0 := by kernel_rfl
theorem et_rt : (Tryz.prog.cutTypes.find? (·.1 == "internal/reflectlite.rtype")).map (·.2) = some 178 := by kernel_rfl
theorem et_row : ((List.range 260).filter fun t => Tryz.prog.rowNamed t [101, 114, 114, 111, 114]) = [29] := by kernel_rfl
theorem et_size : Tryz.prog.types.size = 260 := by kernel_rfl
theorem handle_of_laid {W : World} (h : laidMetH Tryz.prog laidList W) : Et W := by
  have h' : laidMet Tryz.prog [] W ∧ handlesMet Tryz.prog laidList W := h
  obtain ⟨name, u, ty, e1, e2, e3, e4, e5⟩ := h'.2 _ (List.mem_singleton.2 rfl)
  have en : name = [101, 114, 114, 111, 114] := (Option.some.inj e1).symm
  subst en
  obtain rfl := Option.some.inj (et_rt.symm.trans e2)
  have hm : ty ∈ (List.range 260).filter fun t => Tryz.prog.rowNamed t [101, 114, 114, 111, 114] := List.mem_filter.2 ⟨List.mem_range.2 (by rw [← et_size]; exact e3), e4⟩
  rw [et_row] at hm
  obtain rfl := List.mem_singleton.1 hm
  have hh : typeHandle Tryz.prog 29 = .pointer (some ⟨2, 29, none⟩) := by kernel_rfl
  rw [hh] at e5
  have := World.var?_cell et_g e5 0
  unfold Et hnd
  simpa using this
noncomputable def laidWorld (os : Os) : World :=
  let w0 := World.holding Tryz.prog os ⟨#[], #[], []⟩
  { w0 with heap := w0.heap.modify 0 fun
      | .cells _ t frozen => .cells #[.iface 178 (.agg #[.pointer (some ⟨2, 29, none⟩)])] t frozen
      | o => o }
theorem laidWorld_met (os : Os) (args : Array Value) : laidMetH Tryz.prog laidList ((laidWorld os).forCall (fun _ _ => 0) ⟨#[], args, []⟩).memory :=
  laidMetH_of_parts (laidMet_nil _ _) (by kernel_rfl)
end Go.Proofs.YtpfmhohldfnhmaaGreatDoor
set_option linter.unusedVariables false
set_option linter.unusedSimpArgs false
namespace Lk
open Go Go.RowKit Go.ChangeShapes Go.WideShapes Go.Deep
theorem add_plain5 (g o k : Nat) : (⟨g, o, none⟩ : Addr).add k = ⟨g, o + k, none⟩ := by unfold Addr.add; split <;> simp_all
section
variable {P : Program} {H : Type} {enc : TypeId × Value → H}
theorem open_strs {t e : TypeId} {W : World} {a : Option Addr} {len cap : Nat} {d : DataW H} {ps : List MemPlace} (ht : P.underlying t = some (.slice e)) (he : P.underlying e = some .string) (hce : P.cellsOf e = 1)
    (h : DataW.Trod enc P W 0 (fun _ => true) true t (.slice a len cap) d ps) : ∃ l : List ByteArray, l.length = len ∧ SlS W (.slice a len cap) l := by
  obtain ⟨fuel, hf⟩ := h
  rcases open_slice ht hf with ⟨hcs, _⟩ | ⟨x, l, c, m, n, D, Pl, hcs, _, hl, hm, hmm, _, hi⟩
  · simp [Value.cells] at hcs
    obtain ⟨rfl, rfl, rfl⟩ := hcs
    exact ⟨[], rfl, slS_nil W⟩
  · simp [Value.cells] at hcs
    obtain ⟨rfl, rfl, rfl⟩ := hcs
    have hmc : m = cap := by rw [hmm]; rfl
    subst hmc
    have hcellx : ∀ i, i < m → ∃ s, W.cell? (x.add i) = some (.string s) := by
      intro i h
      obtain ⟨cs', h1, h2⟩ := hi i h
      obtain ⟨s, rfl, _, _⟩ := DataW.trod_string he h2
      rw [hce, Nat.mul_one] at h1
      obtain ⟨_, _, hat⟩ := World.cells?_some h1
      have := hat (i := 0) (by omega)
      rw [show (x.add i).add 0 = x.add i by simp [Addr.add]] at this
      exact ⟨s, this.trans rfl⟩
    have hone : ∀ i, ∃ s : ByteArray, i < m → W.cell? (x.add i) = some (.string s) := by
      intro i
      by_cases h : i < m
      · obtain ⟨s, h1⟩ := hcellx i h
        exact ⟨s, fun _ => h1⟩
      · exact ⟨ByteArray.empty, fun h' => absurd h' h⟩
    obtain ⟨f, hf⟩ := Classical.axiomOfChoice hone
    refine ⟨(List.range len).map f, by simp, some x, m, by simp, by simpa using hl, fun hcp => ?_⟩
    have hcp' : 0 < len := by simpa using hcp
    have hx : x.spot = none := by
      obtain ⟨s, this⟩ := hcellx 0 (by omega)
      have e : x.add 0 = x := by simp [Addr.add]
      rw [e] at this
      unfold World.cell? at this
      split at this
      · split at this
        · cases this
        · rename_i hs; simpa using hs
      · cases this
    obtain ⟨gx, ox, s⟩ := x
    cases hx
    refine ⟨gx, ox, rfl, fun k hk => ?_⟩
    have hkl : k < len := by simpa using hk
    have h1 := hf k (by omega)
    rw [add_plain5] at h1
    rw [h1]
    unfold gs
    simp [hkl]
end
end Lk
namespace Go.Proofs.YtpfmhohldfnhmaaGreatDoor.auditChecks
open Go.ChangeShapes Go.WideShapes Go.ChangeAt Go.RowKit Lk
open Go.ChangeMaps (open_string shut_string)
set_option linter.unusedVariables false
set_option linter.unusedSimpArgs false
set_option maxRecDepth 100000 in
theorem lifted (os : Os) (started : os.Started) (H : Type) (enc : TypeId × Value → H) :
    ReturnsInHanded {} Tryz.checked os 6 .any (fun w args => (Rows.auditChecksSpec.pre enc Tryz.prog Tryz.f6 [] false w args ∧ laidMetH Tryz.prog laidList w) ∧ sizedMet enc Tryz.prog Tryz.f6 (OpenSpec.ofChange Rows.auditChecksSpec) false w args)
      (Rows.auditChecksSpec.post enc Tryz.prog Tryz.f6 false true false false) := by
  refine returnsInHanded_of_change_and (C := Tryz.checked) (X := fun w _ => laidMetH Tryz.prog laidList w) (fun _ _ _ hh h => h.of_heap hh) ownKnobNone started (by kernel_rfl) Tryz.func6
    (ChangeSpec.witness_at (enc := enc) (C := Tryz.checked) (os := os) (X := fun w _ => laidMetH Tryz.prog laidList w) false (laidWorld os) #[.slice none 0 0, .slice none 0 0, .agg #[.int .i64 0, .int .u8 0, .int .u8 0, .int .u8 0, .int .u8 0, .int .u8 0, .int .u8 0, .int .u8 0, .int .u8 0, .int .u8 0, .int .u8 0, .int .u8 0, .int .u8 0, .int .u8 0, .int .u8 0, .int .u8 0, .int .u8 0], .bool false] 8 rfl (by kernel_rfl) (by kernel_rfl) (by kernel_rfl) (by kernel_rfl) (by kernel_rfl) (laidWorld_met os _)) ?_
  intro W base args ds gs before hval0 hW _ _ hLd _
  have hval : ∀ (j : Nat) t v, Tryz.f6.params[j]? = some t → args[j]? = some v → Value.okWide Tryz.prog W .any base t v := hval0
  have hW' := hW
  obtain ⟨p, q, hA0, hV, rfl, hfz, hnd⟩ := hW
  have hA : DataW.TrodAll enc Tryz.prog W 0 (fun _ => true) true Tryz.f6.params.toList args.toList ds p := hA0
  have hEt : Et W := handle_of_laid hLd
  rw [Tryz.params6] at hA hval
  obtain ⟨v0, vs0, d0, ds0, p0, q0, hargs, rfl, rfl, h0, r0⟩ := trodAll_cons hA
  obtain ⟨v1, vs1, d1, ds1, p1, q1, rfl, rfl, rfl, h1, r1⟩ := trodAll_cons r0
  obtain ⟨v2, vs2, d2, ds2, p2, q2, rfl, rfl, rfl, h2, r2⟩ := trodAll_cons r1
  obtain ⟨v3, vs3, d3, ds3, p3, q3, rfl, rfl, rfl, h3, r3⟩ := trodAll_cons r2
  obtain ⟨rfl, rfl, rfl⟩ := trodAll_nil r3
  obtain rfl : args = #[v0, v1, v2, v3] := by cases args; simp_all
  obtain ⟨rfl, rfl⟩ := trodVars_none hV
  have k0 := h0
  have lt0 : ∀ x ∈ p0, x.block < W.heap.size := by obtain ⟨m, hm⟩ := k0; exact DataW.trod_lt m _ _ _ hm
  obtain ⟨a0, len0, cap0, rfl⟩ := okWide_slice Tryz.underlying22 (hval 0 22 v0 rfl rfl)
  obtain ⟨l0, hl0, s0⟩ := open_slice_u8 Tryz.underlying22 Tryz.underlying5 (by kernel_rfl) h0
  have k1 := h1
  have lt1 : ∀ x ∈ p1, x.block < W.heap.size := by obtain ⟨m, hm⟩ := k1; exact DataW.trod_lt m _ _ _ hm
  obtain ⟨a1, len1, cap1, rfl⟩ := okWide_slice Tryz.underlying64 (hval 1 64 v1 rfl rfl)
  obtain ⟨l1, hl1, s1⟩ := open_strs Tryz.underlying64 Tryz.underlying9 (by kernel_rfl) h1
  have k2 := h2
  have lt2 : ∀ x ∈ p2, x.block < W.heap.size := by obtain ⟨m, hm⟩ := k2; exact DataW.trod_lt m _ _ _ hm
  obtain ⟨cz2, cm2, rfl, ym2, yz2⟩ := open_chain (show Value.okWide Tryz.prog W .any base cht v2 from (hval 2 55 v2 rfl rfl))
  have k3 := h3
  have lt3 : ∀ x ∈ p3, x.block < W.heap.size := by obtain ⟨m, hm⟩ := k3; exact DataW.trod_lt m _ _ _ hm
  obtain ⟨a3, rfl, rfl, rfl⟩ := open_bool Tryz.underlying4 (hval 3 4 v3 rfl rfl) h3
  clear hA0 hval0
  refine (AuditChecks_any _ l0 _ l1 cz2 cm2 a3 W hEt s0 s1 ym2 yz2).mono fun e W' ⟨he, bel⟩ => ?_
  subst he
  exact ⟨_, rfl, _, _, _, [], _, [], hW', trodAll_mk1 (shut_bool Tryz.underlying4 _), (trodAll_cons_mk (Below.trod laidOutAll (by kernel_rfl) (of_decide_eq_true (by kernel_rfl)) k0 bel lt0) (trodAll_cons_mk (Below.trod laidOutAll (by kernel_rfl) (of_decide_eq_true (by kernel_rfl)) k1 bel lt1) (trodAll_cons_mk (Below.trod laidOutAll (by kernel_rfl) (of_decide_eq_true (by kernel_rfl)) k2 bel lt2) (trodAll_cons_mk (Below.trod laidOutAll (by kernel_rfl) (of_decide_eq_true (by kernel_rfl)) k3 bel lt3) trodAll_mk0)))), rfl, bel.frame _, fun h => by cases h⟩
set_option maxHeartbeats 8000000 in
theorem closed : joinedFacts Tryz.checked.prog 6 Tryz.f6 Rows.auditChecksSpec Rows.auditChecksRow = true := by
  unfold joinedFacts
  simp only [Bool.and_eq_true]
  repeat' apply And.intro
  all_goals first | with_reducible exact fct_laid | with_reducible exact fct_maps | as_aux_lemma => kernel_rfl
theorem named_f : Tryz.prog.funcNamed "lockbox/lockboxlaw23.AuditChecks" = some 6 := by kernel_rfl
theorem over : Rows.AuditChecksSaid :=
  OpenClaim.holds_of_wide 6 Tryz.f6 rfl rfl rfl rfl rfl rfl rfl ⟨rfl, rfl, rfl, rfl, rfl⟩ rfl rfl rfl rfl rfl named_f Tryz.func6 closed
    (of_decide_eq_true (by kernel_rfl)) (by unfold Func.isWrapper; first | (rw [if_pos (by decide +kernel)]; kernel_rfl) | (rw [if_neg (by decide +kernel)]; exact ⟨rfl, rfl⟩))
    (fun os started H enc _ => lifted os started H enc)
theorem params_ok (j : Nat) (t : TypeId) (ht : Tryz.f6.params[j]? = some t) : Tryz.prog.wantsStandIn t = false := by
  rw [Tryz.params6] at ht
  have hm : t ∈ #[22, 64, 55, 4] := Array.mem_of_getElem? ht
  simp only [List.mem_toArray, List.mem_cons, List.not_mem_nil, or_false] at hm
  rcases hm with rfl | rfl | rfl | rfl
  · show Tryz.prog.wantsStandIn 22 = false
    kernel_rfl
  · show Tryz.prog.wantsStandIn 64 = false
    kernel_rfl
  · show Tryz.prog.wantsStandIn 55 = false
    kernel_rfl
  · show Tryz.prog.wantsStandIn 4 = false
    kernel_rfl
theorem wf_text : Rows.auditChecksRow.wfByText (OpenSpec.ofChange Rows.auditChecksSpec) = true := by kernel_rfl
theorem goes_no : false = Rows.auditChecksRow.goesBy Tryz.pinned.checked.prog := by kernel_rfl
theorem card_holds : Rows.AuditChecksCardSaid :=
  Claim7.holds_tied_plain_at .later [] [.handle] true (true, "3a05d988fa47357c235f95377bda5449c7939e0ad58df945c3a7c09d3fa33a44") true
    over (fun _ h => by cases h) wf_text (fun _ h => by cases h) auditChecks_row_tie rfl ⟨rfl, rfl⟩ fct_main rfl
    (fun f fn hf hfn => by
      obtain rfl : f = 6 := Option.some.inj (named_f.symm.trans hf) |>.symm
      obtain rfl : fn = Tryz.f6 := (Option.some.inj (Tryz.func6.symm.trans hfn)).symm
      exact ⟨fct_looks, fun j t ht => params_ok j t ht⟩)
    goes_no
#print axioms card_holds
end Go.Proofs.YtpfmhohldfnhmaaGreatDoor.auditChecks
namespace Go.Proofs.YtpfmhohldfnhmaaGreatDoor
/-- The card, under a short name, for the claim. -/
theorem auditChecks_holds : Rows.AuditChecksCardSaid := auditChecks.card_holds
end Go.Proofs.YtpfmhohldfnhmaaGreatDoor
