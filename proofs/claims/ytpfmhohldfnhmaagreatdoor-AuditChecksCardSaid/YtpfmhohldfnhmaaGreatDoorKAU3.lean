/- AuditNexts: of whatever key, chain and note: the ways out. -/
import Derived.Test.YtpfmhohldfnhmaaGreatDoorKAU2
import Derived.Test.YtpfmhohldfnhmaaGreatDoorKAU1
import Derived.Test.YtpfmhohldfnhmaaGreatDoorKB7
set_option linter.unusedVariables false
set_option linter.unusedSimpArgs false
namespace Go.Proofs.YtpfmhohldfnhmaaGreatDoor
open Go Go.RowKit Lk
theorem Note_size (s : ByteArray) (w : World) (h : s.size = 0 ∨ 60 < s.size) (hs : s.size ≤ 140737488351232) :
    Calls Tryz.prog 34 #[.string s] w fun e w' => e = .returned (.tuple #[.slice none 0 0, .iface 107 (.int .i64 2)]) ∧ w' = w := by
  go_enter Tryz.func34, Tryz.ntmps34
  go_wp2_with (go_at_call 74; refine (noted_no s _ hs h).mono ?_; rintro e w0 ⟨rfl, rfl⟩)
  go_ret2
  exact ⟨rfl, rfl⟩
set_option maxHeartbeats 12800000 in
set_option maxRecDepth 100000 in
theorem AN_f0 (vk : Value) (key : List UInt8) (z : Int) (m : List UInt8) (s : ByteArray) (w : World) (hE : Et w) (hk : SlB w vk key) (hm : m.length = 16)  (b0 : ¬ key.length ≤ 100) : Calls Tryz.prog 5 #[vk, .agg (ch z m), .string s] w fun e w' => e = .returned (.bool true) ∧ Below w.heap.size w w' := by
  obtain ⟨N, hN⟩ : ∃ N, w.heap.size = N := ⟨_, rfl⟩
  have HN := Lib.hid hN
  have HM := Lib.hid hm
  obtain ⟨LK, hL⟩ : ∃ L, key.length = L := ⟨_, rfl⟩
  obtain ⟨Ak, ck, rfl, hck⟩ := hk.formc hL
  rw [hL] at b0
  have i0 : decide ((100 : Int) < (LK : Int)) = true := by simp; omega
  have hM0 : Below N w w := Below.refl _ _
  have hs0 : N ≤ w.heap.size := by omega
  have E_0 := Lib.hid (hE)
  clear hE
  go_enter Tryz.func5, Tryz.ntmps5
  go_wp2_with (first | ((with_reducible show wpList _ _ _ _ _ w); refine box_ch (w := w) rfl 55 _ rfl z m (by rfl) ?_; intro u1 hA0 hG0 hz0; have hL : Below w.heap.size w u1 := below_none (Below.refl _ _) (Nat.le_refl _) hG0; rw [hN] at hA0 ⊢; clear hG0 hz0; have hM1 : Below N w u1 := below_more hM0 hL hs0; have hs1 : N ≤ u1.heap.size := Nat.le_trans hs0 (hL).size; have E_1 := Lib.hid (E_0.out.below hL); clear E_0; clear hM0 hs0; have C_1 := Lib.hid (hA0); clear hL hA0) | (go_at_call 30; (with_reducible show Calls _ _ _ u1 _); refine (awake23 u1).mono ?_; rintro e w2 ⟨rfl, hL⟩; have hM2 : Below N w w2 := below_more hM1 hL hs1; have hs2 : N ≤ w2.heap.size := Nat.le_trans hs1 (hL).size; have E_2 := Lib.hid (E_1.out.below hL); clear E_1; have C_2 := Lib.hid (C_1.out.under hL); clear C_1; clear hM1 hs1; clear hL) | (go_at_call 30; (with_reducible show Calls _ _ _ w2 _); refine (awake23 w2).mono ?_; rintro e w3 ⟨rfl, hL⟩; have hM3 : Below N w w3 := below_more hM2 hL hs2; have hs3 : N ≤ w3.heap.size := Nat.le_trans hs2 (hL).size; have E_3 := Lib.hid (E_2.out.below hL); clear E_2; have C_3 := Lib.hid (C_2.out.under hL); clear C_2; clear hM2 hs2; clear hL))
  go_ret
  exact ⟨rfl, by first | exact hM3 | (rw [HN.out]; exact hM3)⟩
set_option maxHeartbeats 12800000 in
set_option maxRecDepth 100000 in
theorem AN_f1 (vk : Value) (key : List UInt8) (z : Int) (m : List UInt8) (s : ByteArray) (w : World) (hE : Et w) (hk : SlB w vk key) (hm : m.length = 16)  (b0 : key.length ≤ 100) (b1 : ¬ s.size ≤ 200) : Calls Tryz.prog 5 #[vk, .agg (ch z m), .string s] w fun e w' => e = .returned (.bool true) ∧ Below w.heap.size w w' := by
  obtain ⟨N, hN⟩ : ∃ N, w.heap.size = N := ⟨_, rfl⟩
  have HN := Lib.hid hN
  have HM := Lib.hid hm
  obtain ⟨LK, hL⟩ : ∃ L, key.length = L := ⟨_, rfl⟩
  obtain ⟨Ak, ck, rfl, hck⟩ := hk.formc hL
  rw [hL] at b0
  have i0 : decide ((100 : Int) < (LK : Int)) = false := by simp; omega
  have i1 : decide ((200 : Int) < (s.size : Int)) = true := by simp; omega
  have hM0 : Below N w w := Below.refl _ _
  have hs0 : N ≤ w.heap.size := by omega
  have E_0 := Lib.hid (hE)
  clear hE
  go_enter Tryz.func5, Tryz.ntmps5
  go_wp2_with (first | ((with_reducible show wpList _ _ _ _ _ w); refine box_ch (w := w) rfl 55 _ rfl z m (by rfl) ?_; intro u1 hA0 hG0 hz0; have hL : Below w.heap.size w u1 := below_none (Below.refl _ _) (Nat.le_refl _) hG0; rw [hN] at hA0 ⊢; clear hG0 hz0; have hM1 : Below N w u1 := below_more hM0 hL hs0; have hs1 : N ≤ u1.heap.size := Nat.le_trans hs0 (hL).size; have E_1 := Lib.hid (E_0.out.below hL); clear E_0; clear hM0 hs0; have C_1 := Lib.hid (hA0); clear hL hA0) | (go_at_call 30; (with_reducible show Calls _ _ _ u1 _); refine (awake23 u1).mono ?_; rintro e w2 ⟨rfl, hL⟩; have hM2 : Below N w w2 := below_more hM1 hL hs1; have hs2 : N ≤ w2.heap.size := Nat.le_trans hs1 (hL).size; have E_2 := Lib.hid (E_1.out.below hL); clear E_1; have C_2 := Lib.hid (C_1.out.under hL); clear C_1; clear hM1 hs1; clear hL) | (go_at_call 30; (with_reducible show Calls _ _ _ w2 _); refine (awake23 w2).mono ?_; rintro e w3 ⟨rfl, hL⟩; have hM3 : Below N w w3 := below_more hM2 hL hs2; have hs3 : N ≤ w3.heap.size := Nat.le_trans hs2 (hL).size; have E_3 := Lib.hid (E_2.out.below hL); clear E_2; have C_3 := Lib.hid (C_2.out.under hL); clear C_2; clear hM2 hs2; clear hL))
  go_ret
  exact ⟨rfl, by first | exact hM3 | (rw [HN.out]; exact hM3)⟩
set_option maxHeartbeats 12800000 in
set_option maxRecDepth 100000 in
theorem AN_f2 (vk : Value) (key : List UInt8) (z : Int) (m : List UInt8) (s : ByteArray) (w : World) (hE : Et w) (hk : SlB w vk key) (hm : m.length = 16)  (b0 : key.length ≤ 100) (b1 : s.size ≤ 200) (r0 : ¬ 0 ≤ z) : Calls Tryz.prog 5 #[vk, .agg (ch z m), .string s] w fun e w' => e = .returned (.bool true) ∧ Below w.heap.size w w' := by
  obtain ⟨N, hN⟩ : ∃ N, w.heap.size = N := ⟨_, rfl⟩
  have HN := Lib.hid hN
  have HM := Lib.hid hm
  obtain ⟨LK, hL⟩ : ∃ L, key.length = L := ⟨_, rfl⟩
  obtain ⟨Ak, ck, rfl, hck⟩ := hk.formc hL
  rw [hL] at b0
  have i0 : decide ((100 : Int) < (LK : Int)) = false := by simp; omega
  have i1 : decide ((200 : Int) < (s.size : Int)) = false := by simp; omega
  have R0 := Lib.hid r0
  have hM0 : Below N w w := Below.refl _ _
  have hs0 : N ≤ w.heap.size := by omega
  have E_0 := Lib.hid (hE)
  clear hE
  go_enter Tryz.func5, Tryz.ntmps5
  go_wp2_with (first | ((with_reducible show wpList _ _ _ _ _ w); refine box_ch (w := w) rfl 55 _ rfl z m (by rfl) ?_; intro u1 hA0 hG0 hz0; have hL : Below w.heap.size w u1 := below_none (Below.refl _ _) (Nat.le_refl _) hG0; rw [hN] at hA0 ⊢; clear hG0 hz0; have hM1 : Below N w u1 := below_more hM0 hL hs0; have hs1 : N ≤ u1.heap.size := Nat.le_trans hs0 (hL).size; have E_1 := Lib.hid (E_0.out.below hL); clear E_0; clear hM0 hs0; have C_1 := Lib.hid (hA0); clear hL hA0) | (go_at_call 30; (with_reducible show Calls _ _ _ u1 _); refine (awake23 u1).mono ?_; rintro e w2 ⟨rfl, hL⟩; have hM2 : Below N w w2 := below_more hM1 hL hs1; have hs2 : N ≤ w2.heap.size := Nat.le_trans hs1 (hL).size; have E_2 := Lib.hid (E_1.out.below hL); clear E_1; have C_2 := Lib.hid (C_1.out.under hL); clear C_1; clear hM1 hs1; clear hL) | ((with_reducible show wpList _ _ _ _ _ w2); refine load_ch (w := w2) (by rfl) _ rfl N 55 z m (by rfl) C_2.out HM.out ?_) | (go_at_call 31; (with_reducible show Calls _ _ _ w2 _); refine (Right_low z m w2 (by have := R0.out; omega)).mono ?_; rintro e w3 ⟨rfl, hL⟩; have hM3 : Below N w w3 := below_more hM2 hL hs2; have hs3 : N ≤ w3.heap.size := Nat.le_trans hs2 (hL).size; have E_3 := Lib.hid (E_2.out.below hL); clear E_2; have C_3 := Lib.hid (C_2.out.under hL); clear C_2; clear hM2 hs2; clear hL) | (go_at_call 30; (with_reducible show Calls _ _ _ w3 _); refine (awake23 w3).mono ?_; rintro e w4 ⟨rfl, hL⟩; have hM4 : Below N w w4 := below_more hM3 hL hs3; have hs4 : N ≤ w4.heap.size := Nat.le_trans hs3 (hL).size; have E_4 := Lib.hid (E_3.out.below hL); clear E_3; have C_4 := Lib.hid (C_3.out.under hL); clear C_3; clear hM3 hs3; clear hL))
  go_ret
  exact ⟨rfl, by first | exact hM4 | (rw [HN.out]; exact hM4)⟩
set_option maxHeartbeats 12800000 in
set_option maxRecDepth 100000 in
theorem AN_f3 (vk : Value) (key : List UInt8) (z : Int) (m : List UInt8) (s : ByteArray) (w : World) (hE : Et w) (hk : SlB w vk key) (hm : m.length = 16)  (b0 : key.length ≤ 100) (b1 : s.size ≤ 200) (r0 : 0 ≤ z) (r1 : ¬ z ≤ 4294967295) : Calls Tryz.prog 5 #[vk, .agg (ch z m), .string s] w fun e w' => e = .returned (.bool true) ∧ Below w.heap.size w w' := by
  obtain ⟨N, hN⟩ : ∃ N, w.heap.size = N := ⟨_, rfl⟩
  have HN := Lib.hid hN
  have HM := Lib.hid hm
  obtain ⟨LK, hL⟩ : ∃ L, key.length = L := ⟨_, rfl⟩
  obtain ⟨Ak, ck, rfl, hck⟩ := hk.formc hL
  rw [hL] at b0
  have i0 : decide ((100 : Int) < (LK : Int)) = false := by simp; omega
  have i1 : decide ((200 : Int) < (s.size : Int)) = false := by simp; omega
  have R0 := Lib.hid r0
  have R1 := Lib.hid r1
  have hM0 : Below N w w := Below.refl _ _
  have hs0 : N ≤ w.heap.size := by omega
  have E_0 := Lib.hid (hE)
  clear hE
  go_enter Tryz.func5, Tryz.ntmps5
  go_wp2_with (first | ((with_reducible show wpList _ _ _ _ _ w); refine box_ch (w := w) rfl 55 _ rfl z m (by rfl) ?_; intro u1 hA0 hG0 hz0; have hL : Below w.heap.size w u1 := below_none (Below.refl _ _) (Nat.le_refl _) hG0; rw [hN] at hA0 ⊢; clear hG0 hz0; have hM1 : Below N w u1 := below_more hM0 hL hs0; have hs1 : N ≤ u1.heap.size := Nat.le_trans hs0 (hL).size; have E_1 := Lib.hid (E_0.out.below hL); clear E_0; clear hM0 hs0; have C_1 := Lib.hid (hA0); clear hL hA0) | (go_at_call 30; (with_reducible show Calls _ _ _ u1 _); refine (awake23 u1).mono ?_; rintro e w2 ⟨rfl, hL⟩; have hM2 : Below N w w2 := below_more hM1 hL hs1; have hs2 : N ≤ w2.heap.size := Nat.le_trans hs1 (hL).size; have E_2 := Lib.hid (E_1.out.below hL); clear E_1; have C_2 := Lib.hid (C_1.out.under hL); clear C_1; clear hM1 hs1; clear hL) | ((with_reducible show wpList _ _ _ _ _ w2); refine load_ch (w := w2) (by rfl) _ rfl N 55 z m (by rfl) C_2.out HM.out ?_) | (go_at_call 31; (with_reducible show Calls _ _ _ w2 _); refine (Right_high z m w2 (by have := R0.out; omega) (by have := R1.out; omega)).mono ?_; rintro e w3 ⟨rfl, hL⟩; have hM3 : Below N w w3 := below_more hM2 hL hs2; have hs3 : N ≤ w3.heap.size := Nat.le_trans hs2 (hL).size; have E_3 := Lib.hid (E_2.out.below hL); clear E_2; have C_3 := Lib.hid (C_2.out.under hL); clear C_2; clear hM2 hs2; clear hL) | (go_at_call 30; (with_reducible show Calls _ _ _ w3 _); refine (awake23 w3).mono ?_; rintro e w4 ⟨rfl, hL⟩; have hM4 : Below N w w4 := below_more hM3 hL hs3; have hs4 : N ≤ w4.heap.size := Nat.le_trans hs3 (hL).size; have E_4 := Lib.hid (E_3.out.below hL); clear E_3; have C_4 := Lib.hid (C_3.out.under hL); clear C_3; clear hM3 hs3; clear hL))
  go_ret
  exact ⟨rfl, by first | exact hM4 | (rw [HN.out]; exact hM4)⟩
end Go.Proofs.YtpfmhohldfnhmaaGreatDoor
set_option linter.unusedVariables false
set_option linter.unusedSimpArgs false
namespace Go.Proofs.YtpfmhohldfnhmaaGreatDoor
open Go Go.RowKit Lk
set_option maxHeartbeats 12800000 in
set_option maxRecDepth 100000 in
theorem AN_ok (vk : Value) (key : List UInt8) (n : Nat) (m : List UInt8) (s : ByteArray) (z2 why : Int) (m2 : List UInt8) (q : Value) (w : World) (hE : Et w) (hk : SlB w vk key) (hm : m.length = 16) (hm2 : m2.length = 16) (b0 : key.length ≤ 100) (b1 : s.size ≤ 200) (nn : n ≤ 4294967295)
    (hx : ∀ w', Below w.heap.size w w' → Calls Tryz.prog 32 #[vk, .agg (ch (n : Int) m), .string s] w' fun e w'' => e = .returned (.tuple #[.agg (ch z2 m2), q]) ∧ Below w'.heap.size w' w'')
    (hr : ∀ w', Below w.heap.size w w' → Calls Tryz.prog 33 #[vk, .agg (ch (n : Int) m), .string s] w' fun e w'' => e = .returned (.tuple #[.agg (ch z2 m2), .int .i64 why]) ∧ Below w'.heap.size w' w'')
    (hc : ∀ w', Et w' → Calls Tryz.prog 19 #[q] w' fun e w'' => e = .returned (.int .i64 why) ∧ Below w'.heap.size w' w'') (c0 : 1 ≤ s.size) (c1 : s.size ≤ 60) : Calls Tryz.prog 5 #[vk, .agg (ch n m), .string s] w fun e w' => e = .returned (.bool true) ∧ Below w.heap.size w w' := by
  obtain ⟨N, hN⟩ : ∃ N, w.heap.size = N := ⟨_, rfl⟩
  have HN := Lib.hid hN
  have HM := Lib.hid hm
  obtain ⟨LK, hL⟩ : ∃ L, key.length = L := ⟨_, rfl⟩
  obtain ⟨Ak, ck, rfl, hck⟩ := hk.formc hL
  rw [hL] at b0
  have HX := Lib.hid (show ∀ w', Below N w w' → _ from fun w' h => hx w' (by rw [hN]; exact h))
  have HR := Lib.hid (show ∀ w', Below N w w' → _ from fun w' h => hr w' (by rw [hN]; exact h))
  have HC := Lib.hid hc
  have HM2 := Lib.hid hm2
  have HNN := Lib.hid (show n ≤ 4294967296 by omega)
  have R0 := Lib.hid (show 0 ≤ (n : Int) by omega)
  have R1 := Lib.hid (show (n : Int) ≤ 4294967295 by omega)
  have i0 : decide ((100 : Int) < (LK : Int)) = false := by simp; omega
  have i1 : decide ((200 : Int) < (s.size : Int)) = false := by simp; omega
  have i2 : ¬ (s.size : Int) = 0 := by omega
  have i2c : ((s.size : Int) == 0) = false := beq_eq_false_iff_ne.2 (by omega)
  have i2b : ¬ s = ByteArray.empty := fun e => by rw [e] at c0; exact absurd c0 (by decide)
  have i3 : decide ((60 : Int) < (s.size : Int)) = false := by simp; omega
  have S1 := Lib.hid c0
  have S2 := Lib.hid c1
  clear hx hr hc hm2 b0 nn hm hk hL b1 c0 c1
  have hM0 : Below N w w := Below.refl _ _
  have hs0 : N ≤ w.heap.size := by omega
  have E_0 := Lib.hid (hE)
  clear hE
  go_enter Tryz.func5, Tryz.ntmps5
  go_wp2_with (first | ((with_reducible show wpList _ _ _ _ _ w); refine box_ch (w := w) rfl 55 _ rfl (n : Int) m (by rfl) ?_; intro u1 hA0 hG0 hz0; have hL : Below w.heap.size w u1 := below_none (Below.refl _ _) (Nat.le_refl _) hG0; rw [hN] at hA0 ⊢; clear hG0 hz0; have hM1 : Below N w u1 := below_more hM0 hL hs0; have hs1 : N ≤ u1.heap.size := Nat.le_trans hs0 (hL).size; have E_1 := Lib.hid (E_0.out.below hL); clear E_0; clear hM0 hs0; have C_1 := Lib.hid (hA0); clear hL hA0) | (go_at_call 30; (with_reducible show Calls _ _ _ u1 _); refine (awake23 u1).mono ?_; rintro e w2 ⟨rfl, hL⟩; have hM2 : Below N w w2 := below_more hM1 hL hs1; have hs2 : N ≤ w2.heap.size := Nat.le_trans hs1 (hL).size; have E_2 := Lib.hid (E_1.out.below hL); clear E_1; have C_2 := Lib.hid (C_1.out.under hL); clear C_1; clear hM1 hs1; clear hL) | ((with_reducible show wpList _ _ _ _ _ w2); refine load_ch (w := w2) (by rfl) _ rfl N 55 (n : Int) m (by rfl) C_2.out HM.out ?_) | (go_at_call 31; (with_reducible show Calls _ _ _ w2 _); refine (Right_yes n m w2 (by have := R0.out; omega) (by have := R1.out; omega)).mono ?_; rintro e w3 ⟨rfl, hL⟩; have hM3 : Below N w w3 := below_more hM2 hL hs2; have hs3 : N ≤ w3.heap.size := Nat.le_trans hs2 (hL).size; have E_3 := Lib.hid (E_2.out.below hL); clear E_2; have C_3 := Lib.hid (C_2.out.under hL); clear C_2; clear hM2 hs2; clear hL) | ((with_reducible show wpList _ _ _ _ _ w3); refine load_ch (w := w3) (by rfl) _ rfl N 55 (n : Int) m (by rfl) C_3.out HM.out ?_) | (go_at_call 32; (with_reducible show Calls _ _ _ w3 _); refine (HX.out w3 hM3).mono ?_; rintro e w4c ⟨rfl, hLc⟩) | ((with_reducible show wpList _ _ _ _ _ w4c); refine alloc_row (w := w4c) rfl 55 rfl (.agg (ch 0 (List.replicate 16 0))) 17 (fun _ => by kernel_rfl) (by kernel_rfl) ?_; intro w4a hRa _ hGa hza) | ((with_reducible show wpList _ _ _ _ _ w4a); refine store_ch (w := w4a) rfl 55 _ _ rfl w4c.heap.size 55 z2 m2 (by rfl) (by rfl) hRa HM2.out (by kernel_rfl) ?_; intro w4 hBb hGb hzb; have hL9 : Below w4c.heap.size w4c w4 := below_new (below_none (Below.refl _ _) (Nat.le_refl _) hGa) hGa.size hGb (Nat.le_refl _); have hL : Below w3.heap.size w3 w4 := below_more hLc hL9 hLc.size; obtain ⟨Gd, eGx⟩ : ∃ g, w4c.heap.size = g := ⟨_, rfl⟩; have hgB : ChB w4 Gd 55 z2 m2 := (by rw [← eGx]; exact hBb); have HLGd := Lib.hid (show N ≤ Gd from (by rw [← eGx]; exact Nat.le_trans hs3 hLc.size)); rw [eGx]; clear hRa hGa hza hBb hGb hzb hLc eGx hL9; have hM4 : Below N w w4 := below_more hM3 hL hs3; have hs4 : N ≤ w4.heap.size := Nat.le_trans hs3 (hL).size; have E_4 := Lib.hid (E_3.out.below hL); clear E_3; have C_4 := Lib.hid (C_3.out.under hL); clear C_3; clear hM3 hs3; have d_4 := Lib.hid (hgB); clear hL hgB) | ((with_reducible show wpList _ _ _ _ _ w4); refine load_ch (w := w4) (by rfl) _ rfl N 55 (n : Int) m (by rfl) C_4.out HM.out ?_) | (go_at_call 33; (with_reducible show Calls _ _ _ w4 _); refine (HR.out w4 hM4).mono ?_; rintro e w5c ⟨rfl, hLc⟩) | ((with_reducible show wpList _ _ _ _ _ w5c); refine alloc_row (w := w5c) rfl 55 rfl (.agg (ch 0 (List.replicate 16 0))) 17 (fun _ => by kernel_rfl) (by kernel_rfl) ?_; intro w5a hRa _ hGa hza) | ((with_reducible show wpList _ _ _ _ _ w5a); refine store_ch (w := w5a) rfl 55 _ _ rfl w5c.heap.size 55 z2 m2 (by rfl) (by rfl) hRa HM2.out (by kernel_rfl) ?_; intro w5 hBb hGb hzb; have hL9 : Below w5c.heap.size w5c w5 := below_new (below_none (Below.refl _ _) (Nat.le_refl _) hGa) hGa.size hGb (Nat.le_refl _); have hL : Below w4.heap.size w4 w5 := below_more hLc hL9 hLc.size; obtain ⟨Gx, eGx⟩ : ∃ g, w5c.heap.size = g := ⟨_, rfl⟩; have hgB : ChB w5 Gx 55 z2 m2 := (by rw [← eGx]; exact hBb); have HLGx := Lib.hid (show N ≤ Gx from (by rw [← eGx]; exact Nat.le_trans hs4 hLc.size)); rw [eGx]; clear hRa hGa hza hBb hGb hzb hLc eGx hL9; have hM5 : Below N w w5 := below_more hM4 hL hs4; have hs5 : N ≤ w5.heap.size := Nat.le_trans hs4 (hL).size; have E_5 := Lib.hid (E_4.out.below hL); clear E_4; have C_5 := Lib.hid (C_4.out.under hL); clear C_4; have d_5 := Lib.hid (d_4.out.under hL); clear d_4; clear hM4 hs4; have x_5 := Lib.hid (hgB); clear hL hgB) | (go_at_call 34; (with_reducible show Calls _ _ _ w5 _); refine (Note_yes s w5 (by have := S1.out; omega) (by have := S2.out; omega)).mono ?_; rintro e w6 ⟨vn, rfl, hO, hL⟩; have hS9 := hO.slB; have hM6 : Below N w w6 := below_more hM5 hL hs5; have hs6 : N ≤ w6.heap.size := Nat.le_trans hs5 (hL).size; have E_6 := Lib.hid (E_5.out.below hL); clear E_5; have C_6 := Lib.hid (C_5.out.under hL); clear C_5; have d_6 := Lib.hid (d_5.out.under hL); clear d_5; have x_6 := Lib.hid (x_5.out.under hL); clear x_5; clear hM5 hs5; have NN_6 := Lib.hid (hS9); clear hO hL hS9) | ((with_reducible show wpList _ _ _ _ _ (World.alloc w6 _)); obtain ⟨wx, hwX⟩ : ∃ x, w6.alloc (.cells (Bs [6]) u8t) = x := ⟨_, rfl⟩; have hO : Own wx w6.heap.size (.slice (some ⟨w6.heap.size, 0, none⟩) 1 1) [6] := (by rw [← hwX]; exact own_lit w6 _ [6] (Nat.le_refl _) (by decide)); have hL : Below w6.heap.size w6 wx := (by rw [← hwX]; exact below_alloc (Below.refl _ _) (Nat.le_refl _) _); refine op_bytes (w := w6.alloc (.cells (Bs [6]) u8t)) (by rfl) _ rfl s rfl (by have := S2.out; omega) ?_; rw [hwX]; clear hwX; have SMb := Lib.hid hM6; have SSb := Lib.hid hs6; have SbE := Lib.hid E_6.out; have SbC := Lib.hid C_6.out; have Sbd := Lib.hid d_6.out; have Sbx := Lib.hid x_6.out; have SbNN := Lib.hid NN_6.out; have Mb_6 := Lib.hid (Below.refl w6.heap.size w6); have hM7 : Below N w wx := below_more hM6 hL hs6; have hs7 : N ≤ wx.heap.size := Nat.le_trans hs6 (hL).size; have E_7 := Lib.hid (E_6.out.below hL); clear E_6; have C_7 := Lib.hid (C_6.out.under hL); clear C_6; have d_7 := Lib.hid (d_6.out.under hL); clear d_6; have x_7 := Lib.hid (x_6.out.under hL); clear x_6; have NN_7 := Lib.hid (NN_6.out.below hL); clear NN_6; have Mb_7 := Lib.hid (below_more Mb_6.out hL Mb_6.out.size); clear Mb_6; clear hM6 hs6; have O6_7 := Lib.hid (hO); clear hL hO; intro vT w8 hT hL hTb; clear hTb; have hM8 : Below N w w8 := below_more hM7 hL hs7; have hs8 : N ≤ w8.heap.size := Nat.le_trans hs7 (hL).size; have E_8 := Lib.hid (E_7.out.below hL); clear E_7; have C_8 := Lib.hid (C_7.out.under hL); clear C_7; have d_8 := Lib.hid (d_7.out.under hL); clear d_7; have x_8 := Lib.hid (x_7.out.under hL); clear x_7; have NN_8 := Lib.hid (NN_7.out.below hL); clear NN_7; have Mb_8 := Lib.hid (below_more Mb_7.out hL Mb_7.out.size); clear Mb_7; have O6_8 := Lib.hid (O6_7.out.under hL); clear O6_7; clear hM7 hs7; have T_8 := Lib.hid (hT); clear hL hT) | (at_builtin; (with_reducible show wpList _ _ _ _ _ w8); (refine append_bg (w := w8) hu_sl hu_u8 (by rfl) _ _ rfl w6.heap.size _ [6] (by rfl) O6_8.out _ (sb s) (by rfl) T_8.out (by rw [sb_len]; have := S2.out; simp; omega) Mb_8.out.size ?_); intro vX w9 hO hG; have hL : Below w6.heap.size w6 w9 := below_own Mb_8.out Mb_8.out.size hG (fun k hk => (O6_8.out.lt k hk).1); have hX := hO.slB; clear hG hO; clear E_8 C_8 d_8 x_8 NN_8 Mb_8 O6_8 T_8; clear hM8 hs8; have hM9 : Below N w w9 := below_more SMb.out hL SSb.out; have hs9 : N ≤ w9.heap.size := Nat.le_trans SSb.out (hL).size; have E_9 := Lib.hid (SbE.out.below hL); have C_9 := Lib.hid (SbC.out.under hL); have d_9 := Lib.hid (Sbd.out.under hL); have x_9 := Lib.hid (Sbx.out.under hL); have NN_9 := Lib.hid (SbNN.out.below hL); have X_9 := Lib.hid (hX); clear hL hX) | (go_at_call 22; (with_reducible show Calls _ _ _ w9 _); refine (Same_any _ _ (6 :: sb s) ([6] ++ sb s) w9 NN_9.out X_9.out (by rw [List.length_cons, sb_len]; have := S2.out; omega)).mono ?_; rintro e w10 ⟨rfl, hL9⟩; have hL := hL9.below0; clear hL9; rw [show ((6 :: sb s) == ([6] ++ sb s)) = true from beq_self_eq_true _]; have hM10 : Below N w w10 := below_more hM9 hL hs9; have hs10 : N ≤ w10.heap.size := Nat.le_trans hs9 (hL).size; have E_10 := Lib.hid (E_9.out.below hL); clear E_9; have C_10 := Lib.hid (C_9.out.under hL); clear C_9; have d_10 := Lib.hid (d_9.out.under hL); clear d_9; have x_10 := Lib.hid (x_9.out.under hL); clear x_9; have NN_10 := Lib.hid (NN_9.out.below hL); clear NN_9; have X_10 := Lib.hid (X_9.out.below hL); clear X_9; clear hM9 hs9; clear hL; clear NN_10; clear X_10))
  obtain ⟨M, eM⟩ : ∃ M, w10.heap.size = M := ⟨_, rfl⟩
  have HSM := Lib.hid (show ∀ wq, Below M w10 wq → Below w10.heap.size w10 wq from fun wq h => by rw [eM]; exact h)
  have hS : Below M w10 w10.drew := ⟨rfl, rfl, rfl, Nat.le_refl _, fun _ _ => rfl⟩
  have HBd := Lib.hid (show ∀ wq, Below M w10 wq → ChB wq Gd 55 z2 m2 from fun wq h => d_10.out.under (HSM.out wq h))
  have HBx := Lib.hid (show ∀ wq, Below M w10 wq → ChB wq Gx 55 z2 m2 from fun wq h => x_10.out.under (HSM.out wq h))
  have HBC := Lib.hid (show ∀ wq, Below M w10 wq → ChB wq N 55 (n : Int) m from fun wq h => C_10.out.under (HSM.out wq h))
  have HEk := Lib.hid (show ∀ wq, Below M w10 wq → Et wq from fun wq h => E_10.out.below (HSM.out wq h))
  refine wp_region_held (S := fun wq => Below M w10 wq) (by kernel_rfl) ?_
  show wpAnyH _ _ _ _ _ 17 _ _ w10.drew
  refine anyH_tk (i := 0) (some 77) rfl (by kernel_rfl) (by kernel_rfl) (by kernel_rfl) (by kernel_rfl) (fun _ _ _ h => h) (yields_chain (by kernel_rfl) _ rfl Gd 55 z2 m2 (by kernel_rfl) (fun wq hq => HBd.out wq hq) HM2.out) hS ?_
  refine anyH_tk (i := 1) (some 78) rfl (by kernel_rfl) (by kernel_rfl) (by kernel_rfl) (by kernel_rfl) (fun _ _ _ h => h) (yields_chain (by kernel_rfl) _ rfl Gx 55 z2 m2 (by kernel_rfl) (fun wq hq => HBx.out wq hq) HM2.out) hS ?_
  refine anyH_tk (i := 2) (some 79) rfl (by kernel_rfl) (by kernel_rfl) (by kernel_rfl) (by kernel_rfl) (fun _ _ _ h => h) (yields_eqc (by kernel_rfl) cht _ _ _ rfl (ch z2 m2) (ch z2 m2) (by kernel_rfl) (by kernel_rfl) (by kernel_rfl) true (fun w => (run_eql_ch w z2 z2 m2 m2 HM2.out HM2.out).trans (by simp))) hS ?_
  refine anyH_tk (i := 3) (some 80) rfl (by kernel_rfl) (by kernel_rfl) (by kernel_rfl) (by kernel_rfl) (fun _ _ _ h => h) (yields_val (by kernel_rfl) (.bool true) (fun w => by kernel_rfl)) hS ?_
  refine anyH_tk (i := 4) (some 81) rfl (by kernel_rfl) (by kernel_rfl) (by kernel_rfl) (by kernel_rfl) (fun _ _ _ h => h) (yields_val (by kernel_rfl) (q) (fun w => by kernel_rfl)) hS ?_
  refine anyH_tk (i := 6) (some 83) rfl (by kernel_rfl) (by kernel_rfl) (by kernel_rfl) (by kernel_rfl) (fun _ _ _ h => h) (yields_val (by kernel_rfl) (.int .i64 why) (fun w => by kernel_rfl)) hS ?_
  refine anyH_one 5 (by kernel_rfl) ?_
  refine opH_enter (some 82) rfl (by kernel_rfl) (by kernel_rfl) 19 #[q] (fun v wq => v = .int .i64 why ∧ Below w10.drew.heap.size w10.drew wq) (by kernel_rfl) ((HC.out w10.drew (HEk.out w10.drew hS)).mono fun e wq ⟨q1, q2⟩ => ⟨_, q1, rfl, q2⟩) ?_
  rintro v9 v1 ⟨rfl, hL⟩
  have hS : Below M w10 v1 := below_more hS hL (by have := hS.size; omega)
  refine ⟨hS, ?_⟩
  refine anyH_tk (i := 7) (some 84) rfl (by kernel_rfl) (by kernel_rfl) (by kernel_rfl) (by kernel_rfl) (fun _ _ _ h => h) (yields_val (by kernel_rfl) (.bool (why == why)) (fun w => by kernel_rfl)) hS ?_
  rw [show (why == why) = true from beq_self_eq_true why]
  refine anyH_tk (i := 8) (some 85) rfl (by kernel_rfl) (by kernel_rfl) (by kernel_rfl) (by kernel_rfl) (fun _ _ _ h => h) (yields_val (by kernel_rfl) (.bool true) (fun w => by kernel_rfl)) hS ?_
  refine anyH_tk (i := 9) (some 86) rfl (by kernel_rfl) (by kernel_rfl) (by kernel_rfl) (by kernel_rfl) (fun _ _ _ h => h) (yields_val (by kernel_rfl) (.bool true) (fun w => by kernel_rfl)) hS ?_
  refine anyH_tk (i := 10) (some 87) rfl (by kernel_rfl) (by kernel_rfl) (by kernel_rfl) (by kernel_rfl) (fun _ _ _ h => h) (yields_chain (by kernel_rfl) _ rfl N 55 (n : Int) m (by kernel_rfl) (fun wq hq => HBC.out wq hq) HM.out) hS ?_
  refine anyH_tk (i := 12) (some 89) rfl (by kernel_rfl) (by kernel_rfl) (by kernel_rfl) (by kernel_rfl) (fun _ _ _ h => h) (yields_chain (by kernel_rfl) _ rfl N 55 (n : Int) m (by kernel_rfl) (fun wq hq => HBC.out wq hq) HM.out) hS ?_
  refine anyH_one 11 (by kernel_rfl) ?_
  refine opH_enter (some 88) rfl (by kernel_rfl) (by kernel_rfl) 35 #[.agg (ch (n : Int) m)] (fun v wq => SlB wq v (5 :: (pnum n ++ m)) ∧ Below v1.heap.size v1 wq) (by kernel_rfl) ((Save_any n m v1 HNN.out HM.out).mono fun e wq ⟨v, q1, q2, q3⟩ => ⟨v, q1, q2.slB, q3⟩) ?_
  rintro va v2 ⟨hA, hL⟩
  have hS : Below M w10 v2 := below_more hS hL (by have := hS.size; omega)
  refine ⟨hS, ?_⟩
  have HA := Lib.hid (hA)
  clear hA
  refine anyH_one 13 (by kernel_rfl) ?_
  refine opH_enter (some 90) rfl (by kernel_rfl) (by kernel_rfl) 36 #[.agg (ch (n : Int) m)] (fun v wq => SlB wq v (5 :: (pnum n ++ m)) ∧ Below v2.heap.size v2 wq) (by kernel_rfl) ((rSave_any n m v2 HNN.out HM.out).mono fun e wq ⟨v, q1, q2, q3⟩ => ⟨v, q1, q2.slB, q3⟩) ?_
  rintro vb v3 ⟨hB, hL⟩
  have hS : Below M w10 v3 := below_more hS hL (by have := hS.size; omega)
  refine ⟨hS, ?_⟩
  refine anyH_one 14 (by kernel_rfl) ?_
  refine opH_enter (some 91) rfl (by kernel_rfl) (by kernel_rfl) 22 #[va, vb] (fun v wq => v = .bool true ∧ Below v3.heap.size v3 wq) (by kernel_rfl) ((Same_any _ _ _ _ v3 (HA.out.below hL) hB (by rw [List.length_cons, List.length_append, pnum_len, HM.out]; decide)).mono fun e wq ⟨q1, q2⟩ => ⟨_, q1, by rw [beq_self_eq_true], q2.below0⟩) ?_
  rintro v9 v4 ⟨rfl, hL⟩
  have hS : Below M w10 v4 := below_more hS hL (by have := hS.size; omega)
  refine ⟨hS, ?_⟩
  refine anyH_tk (i := 15) (some 92) rfl (by kernel_rfl) (by kernel_rfl) (by kernel_rfl) (by kernel_rfl) (fun _ _ _ h => h) (yields_val (by kernel_rfl) (.bool true) (fun w => by kernel_rfl)) hS ?_
  refine anyH_tk (i := 16) (some 6) rfl (by kernel_rfl) (by kernel_rfl) (by kernel_rfl) (by kernel_rfl) (fun _ _ _ h => h) (yields_val (by kernel_rfl) (.bool true) (fun w => by kernel_rfl)) hS ?_
  refine wpAnyH_done (by kernel_rfl) ?_ _
  simp only [Act.put, List.getElem_toArray, List.getElem_cons_succ, List.getElem_cons_zero, List.setIfInBounds_toArray, List.set_cons_succ, List.set_cons_zero]
  go_wp2
  go_ret
  exact ⟨rfl, by first | exact below_more hM10 hS (by omega) | (rw [HN.out]; exact below_more hM10 hS (by omega))⟩
end Go.Proofs.YtpfmhohldfnhmaaGreatDoor
set_option linter.unusedVariables false
set_option linter.unusedSimpArgs false
namespace Go.Proofs.YtpfmhohldfnhmaaGreatDoor
open Go Go.RowKit Lk
set_option maxHeartbeats 12800000 in
set_option maxRecDepth 100000 in
theorem AN_long (vk : Value) (key : List UInt8) (n : Nat) (m : List UInt8) (s : ByteArray) (z2 why : Int) (m2 : List UInt8) (q : Value) (w : World) (hE : Et w) (hk : SlB w vk key) (hm : m.length = 16) (hm2 : m2.length = 16) (b0 : key.length ≤ 100) (b1 : s.size ≤ 200) (nn : n ≤ 4294967295)
    (hx : ∀ w', Below w.heap.size w w' → Calls Tryz.prog 32 #[vk, .agg (ch (n : Int) m), .string s] w' fun e w'' => e = .returned (.tuple #[.agg (ch z2 m2), q]) ∧ Below w'.heap.size w' w'')
    (hr : ∀ w', Below w.heap.size w w' → Calls Tryz.prog 33 #[vk, .agg (ch (n : Int) m), .string s] w' fun e w'' => e = .returned (.tuple #[.agg (ch z2 m2), .int .i64 why]) ∧ Below w'.heap.size w' w'')
    (hc : ∀ w', Et w' → Calls Tryz.prog 19 #[q] w' fun e w'' => e = .returned (.int .i64 why) ∧ Below w'.heap.size w' w'') (c1 : 60 < s.size) : Calls Tryz.prog 5 #[vk, .agg (ch n m), .string s] w fun e w' => e = .returned (.bool true) ∧ Below w.heap.size w w' := by
  obtain ⟨N, hN⟩ : ∃ N, w.heap.size = N := ⟨_, rfl⟩
  have HN := Lib.hid hN
  have HM := Lib.hid hm
  obtain ⟨LK, hL⟩ : ∃ L, key.length = L := ⟨_, rfl⟩
  obtain ⟨Ak, ck, rfl, hck⟩ := hk.formc hL
  rw [hL] at b0
  have HX := Lib.hid (show ∀ w', Below N w w' → _ from fun w' h => hx w' (by rw [hN]; exact h))
  have HR := Lib.hid (show ∀ w', Below N w w' → _ from fun w' h => hr w' (by rw [hN]; exact h))
  have HC := Lib.hid hc
  have HM2 := Lib.hid hm2
  have HNN := Lib.hid (show n ≤ 4294967296 by omega)
  have R0 := Lib.hid (show 0 ≤ (n : Int) by omega)
  have R1 := Lib.hid (show (n : Int) ≤ 4294967295 by omega)
  have i0 : decide ((100 : Int) < (LK : Int)) = false := by simp; omega
  have i1 : decide ((200 : Int) < (s.size : Int)) = false := by simp; omega
  have i2 : ¬ (s.size : Int) = 0 := by omega
  have i2c : ((s.size : Int) == 0) = false := beq_eq_false_iff_ne.2 (by omega)
  have i2b : ¬ s = ByteArray.empty := fun e => by rw [e] at c1; exact absurd c1 (by decide)
  have i3 : decide ((60 : Int) < (s.size : Int)) = true := by simp; omega
  have HS := Lib.hid (show s.size = 0 ∨ 60 < s.size from .inr c1)
  have HS0 := Lib.hid (show s.size ≤ 140737488351232 by omega)
  clear hx hr hc hm2 b0 nn hm hk hL b1 c1
  have hM0 : Below N w w := Below.refl _ _
  have hs0 : N ≤ w.heap.size := by omega
  have E_0 := Lib.hid (hE)
  clear hE
  go_enter Tryz.func5, Tryz.ntmps5
  go_wp2_with (first | ((with_reducible show wpList _ _ _ _ _ w); refine box_ch (w := w) rfl 55 _ rfl (n : Int) m (by rfl) ?_; intro u1 hA0 hG0 hz0; have hL : Below w.heap.size w u1 := below_none (Below.refl _ _) (Nat.le_refl _) hG0; rw [hN] at hA0 ⊢; clear hG0 hz0; have hM1 : Below N w u1 := below_more hM0 hL hs0; have hs1 : N ≤ u1.heap.size := Nat.le_trans hs0 (hL).size; have E_1 := Lib.hid (E_0.out.below hL); clear E_0; clear hM0 hs0; have C_1 := Lib.hid (hA0); clear hL hA0) | (go_at_call 30; (with_reducible show Calls _ _ _ u1 _); refine (awake23 u1).mono ?_; rintro e w2 ⟨rfl, hL⟩; have hM2 : Below N w w2 := below_more hM1 hL hs1; have hs2 : N ≤ w2.heap.size := Nat.le_trans hs1 (hL).size; have E_2 := Lib.hid (E_1.out.below hL); clear E_1; have C_2 := Lib.hid (C_1.out.under hL); clear C_1; clear hM1 hs1; clear hL) | ((with_reducible show wpList _ _ _ _ _ w2); refine load_ch (w := w2) (by rfl) _ rfl N 55 (n : Int) m (by rfl) C_2.out HM.out ?_) | (go_at_call 31; (with_reducible show Calls _ _ _ w2 _); refine (Right_yes n m w2 (by have := R0.out; omega) (by have := R1.out; omega)).mono ?_; rintro e w3 ⟨rfl, hL⟩; have hM3 : Below N w w3 := below_more hM2 hL hs2; have hs3 : N ≤ w3.heap.size := Nat.le_trans hs2 (hL).size; have E_3 := Lib.hid (E_2.out.below hL); clear E_2; have C_3 := Lib.hid (C_2.out.under hL); clear C_2; clear hM2 hs2; clear hL) | ((with_reducible show wpList _ _ _ _ _ w3); refine load_ch (w := w3) (by rfl) _ rfl N 55 (n : Int) m (by rfl) C_3.out HM.out ?_) | (go_at_call 32; (with_reducible show Calls _ _ _ w3 _); refine (HX.out w3 hM3).mono ?_; rintro e w4c ⟨rfl, hLc⟩) | ((with_reducible show wpList _ _ _ _ _ w4c); refine alloc_row (w := w4c) rfl 55 rfl (.agg (ch 0 (List.replicate 16 0))) 17 (fun _ => by kernel_rfl) (by kernel_rfl) ?_; intro w4a hRa _ hGa hza) | ((with_reducible show wpList _ _ _ _ _ w4a); refine store_ch (w := w4a) rfl 55 _ _ rfl w4c.heap.size 55 z2 m2 (by rfl) (by rfl) hRa HM2.out (by kernel_rfl) ?_; intro w4 hBb hGb hzb; have hL9 : Below w4c.heap.size w4c w4 := below_new (below_none (Below.refl _ _) (Nat.le_refl _) hGa) hGa.size hGb (Nat.le_refl _); have hL : Below w3.heap.size w3 w4 := below_more hLc hL9 hLc.size; obtain ⟨Gd, eGx⟩ : ∃ g, w4c.heap.size = g := ⟨_, rfl⟩; have hgB : ChB w4 Gd 55 z2 m2 := (by rw [← eGx]; exact hBb); have HLGd := Lib.hid (show N ≤ Gd from (by rw [← eGx]; exact Nat.le_trans hs3 hLc.size)); rw [eGx]; clear hRa hGa hza hBb hGb hzb hLc eGx hL9; have hM4 : Below N w w4 := below_more hM3 hL hs3; have hs4 : N ≤ w4.heap.size := Nat.le_trans hs3 (hL).size; have E_4 := Lib.hid (E_3.out.below hL); clear E_3; have C_4 := Lib.hid (C_3.out.under hL); clear C_3; clear hM3 hs3; have d_4 := Lib.hid (hgB); clear hL hgB) | ((with_reducible show wpList _ _ _ _ _ w4); refine load_ch (w := w4) (by rfl) _ rfl N 55 (n : Int) m (by rfl) C_4.out HM.out ?_) | (go_at_call 33; (with_reducible show Calls _ _ _ w4 _); refine (HR.out w4 hM4).mono ?_; rintro e w5c ⟨rfl, hLc⟩) | ((with_reducible show wpList _ _ _ _ _ w5c); refine alloc_row (w := w5c) rfl 55 rfl (.agg (ch 0 (List.replicate 16 0))) 17 (fun _ => by kernel_rfl) (by kernel_rfl) ?_; intro w5a hRa _ hGa hza) | ((with_reducible show wpList _ _ _ _ _ w5a); refine store_ch (w := w5a) rfl 55 _ _ rfl w5c.heap.size 55 z2 m2 (by rfl) (by rfl) hRa HM2.out (by kernel_rfl) ?_; intro w5 hBb hGb hzb; have hL9 : Below w5c.heap.size w5c w5 := below_new (below_none (Below.refl _ _) (Nat.le_refl _) hGa) hGa.size hGb (Nat.le_refl _); have hL : Below w4.heap.size w4 w5 := below_more hLc hL9 hLc.size; obtain ⟨Gx, eGx⟩ : ∃ g, w5c.heap.size = g := ⟨_, rfl⟩; have hgB : ChB w5 Gx 55 z2 m2 := (by rw [← eGx]; exact hBb); have HLGx := Lib.hid (show N ≤ Gx from (by rw [← eGx]; exact Nat.le_trans hs4 hLc.size)); rw [eGx]; clear hRa hGa hza hBb hGb hzb hLc eGx hL9; have hM5 : Below N w w5 := below_more hM4 hL hs4; have hs5 : N ≤ w5.heap.size := Nat.le_trans hs4 (hL).size; have E_5 := Lib.hid (E_4.out.below hL); clear E_4; have C_5 := Lib.hid (C_4.out.under hL); clear C_4; have d_5 := Lib.hid (d_4.out.under hL); clear d_4; clear hM4 hs4; have x_5 := Lib.hid (hgB); clear hL hgB) | (go_at_call 34; (with_reducible show Calls _ _ _ w5 _); refine (Note_size s w5 HS.out HS0.out).mono ?_; rintro e w5 ⟨rfl, rfl⟩) | (go_at_call 19; (with_reducible show Calls _ _ _ w5 _); refine (Code_any [] 2 _ w5 E_5.out rfl).mono ?_; rintro e w6 ⟨rfl, hL⟩; have hM6 : Below N w w6 := below_more hM5 hL hs5; have hs6 : N ≤ w6.heap.size := Nat.le_trans hs5 (hL).size; have E_6 := Lib.hid (E_5.out.below hL); clear E_5; have C_6 := Lib.hid (C_5.out.under hL); clear C_5; have d_6 := Lib.hid (d_5.out.under hL); clear d_5; have x_6 := Lib.hid (x_5.out.under hL); clear x_5; clear hM5 hs5; clear hL))
  obtain ⟨M, eM⟩ : ∃ M, w6.heap.size = M := ⟨_, rfl⟩
  have HSM := Lib.hid (show ∀ wq, Below M w6 wq → Below w6.heap.size w6 wq from fun wq h => by rw [eM]; exact h)
  have hS : Below M w6 w6.drew := ⟨rfl, rfl, rfl, Nat.le_refl _, fun _ _ => rfl⟩
  have HBd := Lib.hid (show ∀ wq, Below M w6 wq → ChB wq Gd 55 z2 m2 from fun wq h => d_6.out.under (HSM.out wq h))
  have HBx := Lib.hid (show ∀ wq, Below M w6 wq → ChB wq Gx 55 z2 m2 from fun wq h => x_6.out.under (HSM.out wq h))
  have HBC := Lib.hid (show ∀ wq, Below M w6 wq → ChB wq N 55 (n : Int) m from fun wq h => C_6.out.under (HSM.out wq h))
  have HEk := Lib.hid (show ∀ wq, Below M w6 wq → Et wq from fun wq h => E_6.out.below (HSM.out wq h))
  refine wp_region_held (S := fun wq => Below M w6 wq) (by kernel_rfl) ?_
  show wpAnyH _ _ _ _ _ 17 _ _ w6.drew
  refine anyH_tk (i := 0) (some 77) rfl (by kernel_rfl) (by kernel_rfl) (by kernel_rfl) (by kernel_rfl) (fun _ _ _ h => h) (yields_chain (by kernel_rfl) _ rfl Gd 55 z2 m2 (by kernel_rfl) (fun wq hq => HBd.out wq hq) HM2.out) hS ?_
  refine anyH_tk (i := 1) (some 78) rfl (by kernel_rfl) (by kernel_rfl) (by kernel_rfl) (by kernel_rfl) (fun _ _ _ h => h) (yields_chain (by kernel_rfl) _ rfl Gx 55 z2 m2 (by kernel_rfl) (fun wq hq => HBx.out wq hq) HM2.out) hS ?_
  refine anyH_tk (i := 2) (some 79) rfl (by kernel_rfl) (by kernel_rfl) (by kernel_rfl) (by kernel_rfl) (fun _ _ _ h => h) (yields_eqc (by kernel_rfl) cht _ _ _ rfl (ch z2 m2) (ch z2 m2) (by kernel_rfl) (by kernel_rfl) (by kernel_rfl) true (fun w => (run_eql_ch w z2 z2 m2 m2 HM2.out HM2.out).trans (by simp))) hS ?_
  refine anyH_tk (i := 3) (some 80) rfl (by kernel_rfl) (by kernel_rfl) (by kernel_rfl) (by kernel_rfl) (fun _ _ _ h => h) (yields_val (by kernel_rfl) (.bool true) (fun w => by kernel_rfl)) hS ?_
  refine anyH_tk (i := 4) (some 81) rfl (by kernel_rfl) (by kernel_rfl) (by kernel_rfl) (by kernel_rfl) (fun _ _ _ h => h) (yields_val (by kernel_rfl) (q) (fun w => by kernel_rfl)) hS ?_
  refine anyH_tk (i := 6) (some 83) rfl (by kernel_rfl) (by kernel_rfl) (by kernel_rfl) (by kernel_rfl) (fun _ _ _ h => h) (yields_val (by kernel_rfl) (.int .i64 why) (fun w => by kernel_rfl)) hS ?_
  refine anyH_one 5 (by kernel_rfl) ?_
  refine opH_enter (some 82) rfl (by kernel_rfl) (by kernel_rfl) 19 #[q] (fun v wq => v = .int .i64 why ∧ Below w6.drew.heap.size w6.drew wq) (by kernel_rfl) ((HC.out w6.drew (HEk.out w6.drew hS)).mono fun e wq ⟨q1, q2⟩ => ⟨_, q1, rfl, q2⟩) ?_
  rintro v9 v1 ⟨rfl, hL⟩
  have hS : Below M w6 v1 := below_more hS hL (by have := hS.size; omega)
  refine ⟨hS, ?_⟩
  refine anyH_tk (i := 7) (some 84) rfl (by kernel_rfl) (by kernel_rfl) (by kernel_rfl) (by kernel_rfl) (fun _ _ _ h => h) (yields_val (by kernel_rfl) (.bool (why == why)) (fun w => by kernel_rfl)) hS ?_
  rw [show (why == why) = true from beq_self_eq_true why]
  refine anyH_tk (i := 8) (some 85) rfl (by kernel_rfl) (by kernel_rfl) (by kernel_rfl) (by kernel_rfl) (fun _ _ _ h => h) (yields_val (by kernel_rfl) (.bool true) (fun w => by kernel_rfl)) hS ?_
  refine anyH_tk (i := 9) (some 86) rfl (by kernel_rfl) (by kernel_rfl) (by kernel_rfl) (by kernel_rfl) (fun _ _ _ h => h) (yields_val (by kernel_rfl) (.bool true) (fun w => by kernel_rfl)) hS ?_
  refine anyH_tk (i := 10) (some 87) rfl (by kernel_rfl) (by kernel_rfl) (by kernel_rfl) (by kernel_rfl) (fun _ _ _ h => h) (yields_chain (by kernel_rfl) _ rfl N 55 (n : Int) m (by kernel_rfl) (fun wq hq => HBC.out wq hq) HM.out) hS ?_
  refine anyH_tk (i := 12) (some 89) rfl (by kernel_rfl) (by kernel_rfl) (by kernel_rfl) (by kernel_rfl) (fun _ _ _ h => h) (yields_chain (by kernel_rfl) _ rfl N 55 (n : Int) m (by kernel_rfl) (fun wq hq => HBC.out wq hq) HM.out) hS ?_
  refine anyH_one 11 (by kernel_rfl) ?_
  refine opH_enter (some 88) rfl (by kernel_rfl) (by kernel_rfl) 35 #[.agg (ch (n : Int) m)] (fun v wq => SlB wq v (5 :: (pnum n ++ m)) ∧ Below v1.heap.size v1 wq) (by kernel_rfl) ((Save_any n m v1 HNN.out HM.out).mono fun e wq ⟨v, q1, q2, q3⟩ => ⟨v, q1, q2.slB, q3⟩) ?_
  rintro va v2 ⟨hA, hL⟩
  have hS : Below M w6 v2 := below_more hS hL (by have := hS.size; omega)
  refine ⟨hS, ?_⟩
  have HA := Lib.hid (hA)
  clear hA
  refine anyH_one 13 (by kernel_rfl) ?_
  refine opH_enter (some 90) rfl (by kernel_rfl) (by kernel_rfl) 36 #[.agg (ch (n : Int) m)] (fun v wq => SlB wq v (5 :: (pnum n ++ m)) ∧ Below v2.heap.size v2 wq) (by kernel_rfl) ((rSave_any n m v2 HNN.out HM.out).mono fun e wq ⟨v, q1, q2, q3⟩ => ⟨v, q1, q2.slB, q3⟩) ?_
  rintro vb v3 ⟨hB, hL⟩
  have hS : Below M w6 v3 := below_more hS hL (by have := hS.size; omega)
  refine ⟨hS, ?_⟩
  refine anyH_one 14 (by kernel_rfl) ?_
  refine opH_enter (some 91) rfl (by kernel_rfl) (by kernel_rfl) 22 #[va, vb] (fun v wq => v = .bool true ∧ Below v3.heap.size v3 wq) (by kernel_rfl) ((Same_any _ _ _ _ v3 (HA.out.below hL) hB (by rw [List.length_cons, List.length_append, pnum_len, HM.out]; decide)).mono fun e wq ⟨q1, q2⟩ => ⟨_, q1, by rw [beq_self_eq_true], q2.below0⟩) ?_
  rintro v9 v4 ⟨rfl, hL⟩
  have hS : Below M w6 v4 := below_more hS hL (by have := hS.size; omega)
  refine ⟨hS, ?_⟩
  refine anyH_tk (i := 15) (some 92) rfl (by kernel_rfl) (by kernel_rfl) (by kernel_rfl) (by kernel_rfl) (fun _ _ _ h => h) (yields_val (by kernel_rfl) (.bool true) (fun w => by kernel_rfl)) hS ?_
  refine anyH_tk (i := 16) (some 6) rfl (by kernel_rfl) (by kernel_rfl) (by kernel_rfl) (by kernel_rfl) (fun _ _ _ h => h) (yields_val (by kernel_rfl) (.bool true) (fun w => by kernel_rfl)) hS ?_
  refine wpAnyH_done (by kernel_rfl) ?_ _
  simp only [Act.put, List.getElem_toArray, List.getElem_cons_succ, List.getElem_cons_zero, List.setIfInBounds_toArray, List.set_cons_succ, List.set_cons_zero]
  go_wp2
  go_ret
  exact ⟨rfl, by first | exact below_more hM6 hS (by omega) | (rw [HN.out]; exact below_more hM6 hS (by omega))⟩
end Go.Proofs.YtpfmhohldfnhmaaGreatDoor
set_option linter.unusedVariables false
set_option linter.unusedSimpArgs false
namespace Go.Proofs.YtpfmhohldfnhmaaGreatDoor
open Go Go.RowKit Lk
set_option maxHeartbeats 12800000 in
set_option maxRecDepth 100000 in
theorem AN_empty (vk : Value) (key : List UInt8) (n : Nat) (m : List UInt8) (z2 why : Int) (m2 : List UInt8) (q : Value) (w : World) (hE : Et w) (hk : SlB w vk key) (hm : m.length = 16) (hm2 : m2.length = 16) (b0 : key.length ≤ 100)  (nn : n ≤ 4294967295)
    (hx : ∀ w', Below w.heap.size w w' → Calls Tryz.prog 32 #[vk, .agg (ch (n : Int) m), .string ByteArray.empty] w' fun e w'' => e = .returned (.tuple #[.agg (ch z2 m2), q]) ∧ Below w'.heap.size w' w'')
    (hr : ∀ w', Below w.heap.size w w' → Calls Tryz.prog 33 #[vk, .agg (ch (n : Int) m), .string ByteArray.empty] w' fun e w'' => e = .returned (.tuple #[.agg (ch z2 m2), .int .i64 why]) ∧ Below w'.heap.size w' w'')
    (hc : ∀ w', Et w' → Calls Tryz.prog 19 #[q] w' fun e w'' => e = .returned (.int .i64 why) ∧ Below w'.heap.size w' w'')  : Calls Tryz.prog 5 #[vk, .agg (ch n m), .string ByteArray.empty] w fun e w' => e = .returned (.bool true) ∧ Below w.heap.size w w' := by
  obtain ⟨N, hN⟩ : ∃ N, w.heap.size = N := ⟨_, rfl⟩
  have HN := Lib.hid hN
  have HM := Lib.hid hm
  obtain ⟨LK, hL⟩ : ∃ L, key.length = L := ⟨_, rfl⟩
  obtain ⟨Ak, ck, rfl, hck⟩ := hk.formc hL
  rw [hL] at b0
  have HX := Lib.hid (show ∀ w', Below N w w' → _ from fun w' h => hx w' (by rw [hN]; exact h))
  have HR := Lib.hid (show ∀ w', Below N w w' → _ from fun w' h => hr w' (by rw [hN]; exact h))
  have HC := Lib.hid hc
  have HM2 := Lib.hid hm2
  have HNN := Lib.hid (show n ≤ 4294967296 by omega)
  have R0 := Lib.hid (show 0 ≤ (n : Int) by omega)
  have R1 := Lib.hid (show (n : Int) ≤ 4294967295 by omega)
  have i0 : decide ((100 : Int) < (LK : Int)) = false := by simp; omega
  have HS := Lib.hid (show ByteArray.empty.size = 0 ∨ 60 < ByteArray.empty.size from .inl rfl)
  clear hx hr hc hm2 b0 nn hm hk hL 
  have hM0 : Below N w w := Below.refl _ _
  have hs0 : N ≤ w.heap.size := by omega
  have E_0 := Lib.hid (hE)
  clear hE
  go_enter Tryz.func5, Tryz.ntmps5
  go_wp2_with (first | ((with_reducible show wpList _ _ _ _ _ w); refine box_ch (w := w) rfl 55 _ rfl (n : Int) m (by rfl) ?_; intro u1 hA0 hG0 hz0; have hL : Below w.heap.size w u1 := below_none (Below.refl _ _) (Nat.le_refl _) hG0; rw [hN] at hA0 ⊢; clear hG0 hz0; have hM1 : Below N w u1 := below_more hM0 hL hs0; have hs1 : N ≤ u1.heap.size := Nat.le_trans hs0 (hL).size; have E_1 := Lib.hid (E_0.out.below hL); clear E_0; clear hM0 hs0; have C_1 := Lib.hid (hA0); clear hL hA0) | (go_at_call 30; (with_reducible show Calls _ _ _ u1 _); refine (awake23 u1).mono ?_; rintro e w2 ⟨rfl, hL⟩; have hM2 : Below N w w2 := below_more hM1 hL hs1; have hs2 : N ≤ w2.heap.size := Nat.le_trans hs1 (hL).size; have E_2 := Lib.hid (E_1.out.below hL); clear E_1; have C_2 := Lib.hid (C_1.out.under hL); clear C_1; clear hM1 hs1; clear hL) | ((with_reducible show wpList _ _ _ _ _ w2); refine load_ch (w := w2) (by rfl) _ rfl N 55 (n : Int) m (by rfl) C_2.out HM.out ?_) | (go_at_call 31; (with_reducible show Calls _ _ _ w2 _); refine (Right_yes n m w2 (by have := R0.out; omega) (by have := R1.out; omega)).mono ?_; rintro e w3 ⟨rfl, hL⟩; have hM3 : Below N w w3 := below_more hM2 hL hs2; have hs3 : N ≤ w3.heap.size := Nat.le_trans hs2 (hL).size; have E_3 := Lib.hid (E_2.out.below hL); clear E_2; have C_3 := Lib.hid (C_2.out.under hL); clear C_2; clear hM2 hs2; clear hL) | ((with_reducible show wpList _ _ _ _ _ w3); refine load_ch (w := w3) (by rfl) _ rfl N 55 (n : Int) m (by rfl) C_3.out HM.out ?_) | (go_at_call 32; (with_reducible show Calls _ _ _ w3 _); refine (HX.out w3 hM3).mono ?_; rintro e w4c ⟨rfl, hLc⟩) | ((with_reducible show wpList _ _ _ _ _ w4c); refine alloc_row (w := w4c) rfl 55 rfl (.agg (ch 0 (List.replicate 16 0))) 17 (fun _ => by kernel_rfl) (by kernel_rfl) ?_; intro w4a hRa _ hGa hza) | ((with_reducible show wpList _ _ _ _ _ w4a); refine store_ch (w := w4a) rfl 55 _ _ rfl w4c.heap.size 55 z2 m2 (by rfl) (by rfl) hRa HM2.out (by kernel_rfl) ?_; intro w4 hBb hGb hzb; have hL9 : Below w4c.heap.size w4c w4 := below_new (below_none (Below.refl _ _) (Nat.le_refl _) hGa) hGa.size hGb (Nat.le_refl _); have hL : Below w3.heap.size w3 w4 := below_more hLc hL9 hLc.size; obtain ⟨Gd, eGx⟩ : ∃ g, w4c.heap.size = g := ⟨_, rfl⟩; have hgB : ChB w4 Gd 55 z2 m2 := (by rw [← eGx]; exact hBb); have HLGd := Lib.hid (show N ≤ Gd from (by rw [← eGx]; exact Nat.le_trans hs3 hLc.size)); rw [eGx]; clear hRa hGa hza hBb hGb hzb hLc eGx hL9; have hM4 : Below N w w4 := below_more hM3 hL hs3; have hs4 : N ≤ w4.heap.size := Nat.le_trans hs3 (hL).size; have E_4 := Lib.hid (E_3.out.below hL); clear E_3; have C_4 := Lib.hid (C_3.out.under hL); clear C_3; clear hM3 hs3; have d_4 := Lib.hid (hgB); clear hL hgB) | ((with_reducible show wpList _ _ _ _ _ w4); refine load_ch (w := w4) (by rfl) _ rfl N 55 (n : Int) m (by rfl) C_4.out HM.out ?_) | (go_at_call 33; (with_reducible show Calls _ _ _ w4 _); refine (HR.out w4 hM4).mono ?_; rintro e w5c ⟨rfl, hLc⟩) | ((with_reducible show wpList _ _ _ _ _ w5c); refine alloc_row (w := w5c) rfl 55 rfl (.agg (ch 0 (List.replicate 16 0))) 17 (fun _ => by kernel_rfl) (by kernel_rfl) ?_; intro w5a hRa _ hGa hza) | ((with_reducible show wpList _ _ _ _ _ w5a); refine store_ch (w := w5a) rfl 55 _ _ rfl w5c.heap.size 55 z2 m2 (by rfl) (by rfl) hRa HM2.out (by kernel_rfl) ?_; intro w5 hBb hGb hzb; have hL9 : Below w5c.heap.size w5c w5 := below_new (below_none (Below.refl _ _) (Nat.le_refl _) hGa) hGa.size hGb (Nat.le_refl _); have hL : Below w4.heap.size w4 w5 := below_more hLc hL9 hLc.size; obtain ⟨Gx, eGx⟩ : ∃ g, w5c.heap.size = g := ⟨_, rfl⟩; have hgB : ChB w5 Gx 55 z2 m2 := (by rw [← eGx]; exact hBb); have HLGx := Lib.hid (show N ≤ Gx from (by rw [← eGx]; exact Nat.le_trans hs4 hLc.size)); rw [eGx]; clear hRa hGa hza hBb hGb hzb hLc eGx hL9; have hM5 : Below N w w5 := below_more hM4 hL hs4; have hs5 : N ≤ w5.heap.size := Nat.le_trans hs4 (hL).size; have E_5 := Lib.hid (E_4.out.below hL); clear E_4; have C_5 := Lib.hid (C_4.out.under hL); clear C_4; have d_5 := Lib.hid (d_4.out.under hL); clear d_4; clear hM4 hs4; have x_5 := Lib.hid (hgB); clear hL hgB) | (go_at_call 34; (with_reducible show Calls _ _ _ w5 _); refine (Note_size ByteArray.empty w5 HS.out (by decide)).mono ?_; rintro e w5 ⟨rfl, rfl⟩) | (go_at_call 19; (with_reducible show Calls _ _ _ w5 _); refine (Code_any [] 2 _ w5 E_5.out rfl).mono ?_; rintro e w6 ⟨rfl, hL⟩; have hM6 : Below N w w6 := below_more hM5 hL hs5; have hs6 : N ≤ w6.heap.size := Nat.le_trans hs5 (hL).size; have E_6 := Lib.hid (E_5.out.below hL); clear E_5; have C_6 := Lib.hid (C_5.out.under hL); clear C_5; have d_6 := Lib.hid (d_5.out.under hL); clear d_5; have x_6 := Lib.hid (x_5.out.under hL); clear x_5; clear hM5 hs5; clear hL))
  obtain ⟨M, eM⟩ : ∃ M, w6.heap.size = M := ⟨_, rfl⟩
  have HSM := Lib.hid (show ∀ wq, Below M w6 wq → Below w6.heap.size w6 wq from fun wq h => by rw [eM]; exact h)
  have hS : Below M w6 w6.drew := ⟨rfl, rfl, rfl, Nat.le_refl _, fun _ _ => rfl⟩
  have HBd := Lib.hid (show ∀ wq, Below M w6 wq → ChB wq Gd 55 z2 m2 from fun wq h => d_6.out.under (HSM.out wq h))
  have HBx := Lib.hid (show ∀ wq, Below M w6 wq → ChB wq Gx 55 z2 m2 from fun wq h => x_6.out.under (HSM.out wq h))
  have HBC := Lib.hid (show ∀ wq, Below M w6 wq → ChB wq N 55 (n : Int) m from fun wq h => C_6.out.under (HSM.out wq h))
  have HEk := Lib.hid (show ∀ wq, Below M w6 wq → Et wq from fun wq h => E_6.out.below (HSM.out wq h))
  refine wp_region_held (S := fun wq => Below M w6 wq) (by kernel_rfl) ?_
  show wpAnyH _ _ _ _ _ 17 _ _ w6.drew
  refine anyH_tk (i := 0) (some 77) rfl (by kernel_rfl) (by kernel_rfl) (by kernel_rfl) (by kernel_rfl) (fun _ _ _ h => h) (yields_chain (by kernel_rfl) _ rfl Gd 55 z2 m2 (by kernel_rfl) (fun wq hq => HBd.out wq hq) HM2.out) hS ?_
  refine anyH_tk (i := 1) (some 78) rfl (by kernel_rfl) (by kernel_rfl) (by kernel_rfl) (by kernel_rfl) (fun _ _ _ h => h) (yields_chain (by kernel_rfl) _ rfl Gx 55 z2 m2 (by kernel_rfl) (fun wq hq => HBx.out wq hq) HM2.out) hS ?_
  refine anyH_tk (i := 2) (some 79) rfl (by kernel_rfl) (by kernel_rfl) (by kernel_rfl) (by kernel_rfl) (fun _ _ _ h => h) (yields_eqc (by kernel_rfl) cht _ _ _ rfl (ch z2 m2) (ch z2 m2) (by kernel_rfl) (by kernel_rfl) (by kernel_rfl) true (fun w => (run_eql_ch w z2 z2 m2 m2 HM2.out HM2.out).trans (by simp))) hS ?_
  refine anyH_tk (i := 3) (some 80) rfl (by kernel_rfl) (by kernel_rfl) (by kernel_rfl) (by kernel_rfl) (fun _ _ _ h => h) (yields_val (by kernel_rfl) (.bool true) (fun w => by kernel_rfl)) hS ?_
  refine anyH_tk (i := 4) (some 81) rfl (by kernel_rfl) (by kernel_rfl) (by kernel_rfl) (by kernel_rfl) (fun _ _ _ h => h) (yields_val (by kernel_rfl) (q) (fun w => by kernel_rfl)) hS ?_
  refine anyH_tk (i := 6) (some 83) rfl (by kernel_rfl) (by kernel_rfl) (by kernel_rfl) (by kernel_rfl) (fun _ _ _ h => h) (yields_val (by kernel_rfl) (.int .i64 why) (fun w => by kernel_rfl)) hS ?_
  refine anyH_one 5 (by kernel_rfl) ?_
  refine opH_enter (some 82) rfl (by kernel_rfl) (by kernel_rfl) 19 #[q] (fun v wq => v = .int .i64 why ∧ Below w6.drew.heap.size w6.drew wq) (by kernel_rfl) ((HC.out w6.drew (HEk.out w6.drew hS)).mono fun e wq ⟨q1, q2⟩ => ⟨_, q1, rfl, q2⟩) ?_
  rintro v9 v1 ⟨rfl, hL⟩
  have hS : Below M w6 v1 := below_more hS hL (by have := hS.size; omega)
  refine ⟨hS, ?_⟩
  refine anyH_tk (i := 7) (some 84) rfl (by kernel_rfl) (by kernel_rfl) (by kernel_rfl) (by kernel_rfl) (fun _ _ _ h => h) (yields_val (by kernel_rfl) (.bool (why == why)) (fun w => by kernel_rfl)) hS ?_
  rw [show (why == why) = true from beq_self_eq_true why]
  refine anyH_tk (i := 8) (some 85) rfl (by kernel_rfl) (by kernel_rfl) (by kernel_rfl) (by kernel_rfl) (fun _ _ _ h => h) (yields_val (by kernel_rfl) (.bool true) (fun w => by kernel_rfl)) hS ?_
  refine anyH_tk (i := 9) (some 86) rfl (by kernel_rfl) (by kernel_rfl) (by kernel_rfl) (by kernel_rfl) (fun _ _ _ h => h) (yields_val (by kernel_rfl) (.bool true) (fun w => by kernel_rfl)) hS ?_
  refine anyH_tk (i := 10) (some 87) rfl (by kernel_rfl) (by kernel_rfl) (by kernel_rfl) (by kernel_rfl) (fun _ _ _ h => h) (yields_chain (by kernel_rfl) _ rfl N 55 (n : Int) m (by kernel_rfl) (fun wq hq => HBC.out wq hq) HM.out) hS ?_
  refine anyH_tk (i := 12) (some 89) rfl (by kernel_rfl) (by kernel_rfl) (by kernel_rfl) (by kernel_rfl) (fun _ _ _ h => h) (yields_chain (by kernel_rfl) _ rfl N 55 (n : Int) m (by kernel_rfl) (fun wq hq => HBC.out wq hq) HM.out) hS ?_
  refine anyH_one 11 (by kernel_rfl) ?_
  refine opH_enter (some 88) rfl (by kernel_rfl) (by kernel_rfl) 35 #[.agg (ch (n : Int) m)] (fun v wq => SlB wq v (5 :: (pnum n ++ m)) ∧ Below v1.heap.size v1 wq) (by kernel_rfl) ((Save_any n m v1 HNN.out HM.out).mono fun e wq ⟨v, q1, q2, q3⟩ => ⟨v, q1, q2.slB, q3⟩) ?_
  rintro va v2 ⟨hA, hL⟩
  have hS : Below M w6 v2 := below_more hS hL (by have := hS.size; omega)
  refine ⟨hS, ?_⟩
  have HA := Lib.hid (hA)
  clear hA
  refine anyH_one 13 (by kernel_rfl) ?_
  refine opH_enter (some 90) rfl (by kernel_rfl) (by kernel_rfl) 36 #[.agg (ch (n : Int) m)] (fun v wq => SlB wq v (5 :: (pnum n ++ m)) ∧ Below v2.heap.size v2 wq) (by kernel_rfl) ((rSave_any n m v2 HNN.out HM.out).mono fun e wq ⟨v, q1, q2, q3⟩ => ⟨v, q1, q2.slB, q3⟩) ?_
  rintro vb v3 ⟨hB, hL⟩
  have hS : Below M w6 v3 := below_more hS hL (by have := hS.size; omega)
  refine ⟨hS, ?_⟩
  refine anyH_one 14 (by kernel_rfl) ?_
  refine opH_enter (some 91) rfl (by kernel_rfl) (by kernel_rfl) 22 #[va, vb] (fun v wq => v = .bool true ∧ Below v3.heap.size v3 wq) (by kernel_rfl) ((Same_any _ _ _ _ v3 (HA.out.below hL) hB (by rw [List.length_cons, List.length_append, pnum_len, HM.out]; decide)).mono fun e wq ⟨q1, q2⟩ => ⟨_, q1, by rw [beq_self_eq_true], q2.below0⟩) ?_
  rintro v9 v4 ⟨rfl, hL⟩
  have hS : Below M w6 v4 := below_more hS hL (by have := hS.size; omega)
  refine ⟨hS, ?_⟩
  refine anyH_tk (i := 15) (some 92) rfl (by kernel_rfl) (by kernel_rfl) (by kernel_rfl) (by kernel_rfl) (fun _ _ _ h => h) (yields_val (by kernel_rfl) (.bool true) (fun w => by kernel_rfl)) hS ?_
  refine anyH_tk (i := 16) (some 6) rfl (by kernel_rfl) (by kernel_rfl) (by kernel_rfl) (by kernel_rfl) (fun _ _ _ h => h) (yields_val (by kernel_rfl) (.bool true) (fun w => by kernel_rfl)) hS ?_
  refine wpAnyH_done (by kernel_rfl) ?_ _
  simp only [Act.put, List.getElem_toArray, List.getElem_cons_succ, List.getElem_cons_zero, List.setIfInBounds_toArray, List.set_cons_succ, List.set_cons_zero]
  go_wp2
  go_ret
  exact ⟨rfl, by first | exact below_more hM6 hS (by omega) | (rw [HN.out]; exact below_more hM6 hS (by omega))⟩
end Go.Proofs.YtpfmhohldfnhmaaGreatDoor
set_option linter.unusedVariables false
set_option linter.unusedSimpArgs false
namespace Go.Proofs.YtpfmhohldfnhmaaGreatDoor
open Go Go.RowKit Lk
theorem code_no (k : Int) (w' : World) (h : Et w') : Calls Tryz.prog 19 #[.iface 107 (.int .i64 k)] w' fun e w'' => e = .returned (.int .i64 k) ∧ Below w'.heap.size w' w'' := Code_any [] k _ w' h rfl
/-- the program and the document chain a note alike -/
theorem next_both (vk : Value) (key : List UInt8) (n : Nat) (m : List UInt8) (s : ByteArray) (hm : m.length = 16) (hn : n ≤ 4294967295) (hs : s.size ≤ 140737488351232) : ∃ (z2 why : Int) (m2 : List UInt8) (q : Value), m2.length = 16 ∧
    (∀ w', SlB w' vk key → Calls Tryz.prog 32 #[vk, .agg (ch (n : Int) m), .string s] w' fun e w'' => e = .returned (.tuple #[.agg (ch z2 m2), q]) ∧ Below w'.heap.size w' w'') ∧
    (∀ w', SlB w' vk key → Calls Tryz.prog 33 #[vk, .agg (ch (n : Int) m), .string s] w' fun e w'' => e = .returned (.tuple #[.agg (ch z2 m2), .int .i64 why]) ∧ Below w'.heap.size w' w'') ∧
    (∀ w', Et w' → Calls Tryz.prog 19 #[q] w' fun e w'' => e = .returned (.int .i64 why) ∧ Below w'.heap.size w' w'') := by
  by_cases h16 : key.length = 16
  case neg => exact ⟨n, 2, m, _, hm, fun w' hk => Next_key vk key n m s w' hk h16 hm, fun w' hk => rNext_key vk key n m s w' hk hm h16, code_no 2⟩
  by_cases h0 : s.size = 0
  · exact ⟨n, 2, m, _, hm, fun w' hk => Next_note vk key n m s w' hk h16 hm hs (.inl h0), fun w' hk => rNext_none vk key n m s w' hk hm h16 h0, code_no 2⟩
  by_cases h1 : 60 < s.size
  · exact ⟨n, 2, m, _, hm, fun w' hk => Next_note vk key n m s w' hk h16 hm hs (.inr h1), fun w' hk => rNext_long vk key n m s w' hk hm h16 h1, code_no 2⟩
  by_cases hf : n = 4294967295
  · subst hf
    exact ⟨4294967295, 10, m, _, hm, fun w' hk => Next_full vk key 4294967295 m s w' hk h16 hm (by omega) (by omega) (by decide), fun w' hk => rNext_full vk key 0 m s w' hk hm h16 (by omega) (by omega), code_no 10⟩
  exact ⟨_, 0, _, .nilIface, pcmac_len 1 key _ (.inl rfl), fun w' hk => Next_yes vk key n m s w' hk h16 (by omega) hm (by omega) (by omega), fun w' hk => rNext_yes vk key n m s w' hk hm h16 (by omega) (by omega) (by omega), fun w' h => Code_nil w'⟩
theorem AuditNexts_any (vk : Value) (key : List UInt8) (z : Int) (m : List UInt8) (s : ByteArray) (w : World) (hE : Et w) (hk : SlB w vk key) (hm : m.length = 16) (hz : (Lit.int .i64 z).wf = true) (hs : s.size ≤ 9223372036854775807) : Calls Tryz.prog 5 #[vk, .agg (ch z m), .string s] w fun e w' => e = .returned (.bool true) ∧ Below w.heap.size w w' := by
  by_cases b0 : key.length ≤ 100
  case neg => exact AN_f0 vk key z m s w hE hk hm b0
  by_cases b1 : s.size ≤ 200
  case neg => exact AN_f1 vk key z m s w hE hk hm b0 b1
  by_cases r0 : 0 ≤ z
  case neg => exact AN_f2 vk key z m s w hE hk hm b0 b1 r0
  by_cases r1 : z ≤ 4294967295
  case neg => exact AN_f3 vk key z m s w hE hk hm b0 b1 r0 r1
  obtain ⟨n, rfl⟩ : ∃ n : Nat, z = n := ⟨z.toNat, by omega⟩
  obtain ⟨z2, why, m2, q, hm2, h1, h2, h3⟩ := next_both vk key n m s hm (by omega) (by omega)
  by_cases c0 : s.size = 0
  · have := ByteArray.size_eq_zero_iff.1 c0
    subst this
    exact AN_empty vk key n m z2 why m2 q w hE hk hm hm2 b0 (by omega) (fun w' hw => h1 w' (hk.below hw)) (fun w' hw => h2 w' (hk.below hw)) h3
  by_cases c1 : 60 < s.size
  · exact AN_long vk key n m s z2 why m2 q w hE hk hm hm2 b0 b1 (by omega) (fun w' hw => h1 w' (hk.below hw)) (fun w' hw => h2 w' (hk.below hw)) h3 c1
  · exact AN_ok vk key n m s z2 why m2 q w hE hk hm hm2 b0 b1 (by omega) (fun w' hw => h1 w' (hk.below hw)) (fun w' hw => h2 w' (hk.below hw)) h3 (by omega) (by omega)
end Go.Proofs.YtpfmhohldfnhmaaGreatDoor
