/- The reference's TDES: a key of one, two or three parts. -/
import Derived.Test.YtbbfjlnkhenbiaaGreatDoorKR0
import Derived.Test.YtbbfjlnkhenbiaaGreatDoorKB5
set_option linter.unusedVariables false
set_option linter.unusedSimpArgs false
namespace Lk
theorem ptriple16 (k b : List UInt8) (back : Bool) (h : k.length = 16) : ptriple k b back = dblock (k.take 8) (dblock ((k.drop 8).take 8) (dblock (k.take 8) b back) (!back)) back := by
  have e0 : part8 (pparts k) 0 = k.take 8 := by unfold pparts part8; simp [h, List.take_append_of_le_length]
  have e8 : part8 (pparts k) 8 = (k.drop 8).take 8 := by unfold pparts part8; (simp [h, List.take_append_of_le_length, List.drop_append_of_le_length]; rw [List.take_of_length_le (by rw [List.length_drop]; omega)])
  have e16 : part8 (pparts k) 16 = k.take 8 := by
    unfold pparts part8
    rw [if_neg (by omega), if_pos h, show (16 : Nat) = k.length from h.symm, List.drop_left, List.take_take]; simp
  unfold ptriple
  rw [if_neg (by omega), e0, e8, e16]
  cases back <;> rfl
theorem ptriple24 (k b : List UInt8) (h : k.length = 24) : ptriple k b false = dblock (k.drop 16) (dblock ((k.drop 8).take 8) (dblock (k.take 8) b false) true) false ∧ ptriple k b true = dblock (k.take 8) (dblock ((k.drop 8).take 8) (dblock (k.drop 16) b true) false) true := by
  have e0 : part8 (pparts k) 0 = k.take 8 := by unfold pparts part8; simp [h]
  have e8 : part8 (pparts k) 8 = (k.drop 8).take 8 := by unfold pparts part8; simp [h]
  have e16 : part8 (pparts k) 16 = k.drop 16 := by
    unfold pparts part8
    rw [if_pos h, List.take_of_length_le (by rw [List.length_drop]; omega)]
  unfold ptriple
  rw [if_neg (by omega), if_neg (by omega), e0, e8, e16]
  exact ⟨rfl, rfl⟩
end Lk
namespace Go.Proofs.YtbbfjlnkhenbiaaGreatDoor
open Go Go.RowKit Lk
set_option maxHeartbeats 3200000 in
set_option maxRecDepth 100000 in
theorem rTriple16_false (vk vb : Value) (key b : List UInt8) (w : World) (hk : SlB w vk key) (hkl : key.length = 16) (hb : SlB w vb b) (hbl : b.length = 8) :
    Calls Tryz.prog 66 #[vk, vb, .bool false] w fun e w' => ∃ v, e = .returned v ∧ Own w' w.heap.size v (ptriple key b false) ∧ Below w.heap.size w w' := by
  obtain ⟨N, hN⟩ : ∃ N, w.heap.size = N := ⟨_, rfl⟩
  have HN := Lib.hid hN
  have HK := Lib.hid hk
  have HB := Lib.hid hb
  obtain ⟨A, c, rfl, _, c1, c2, n4⟩ := hk
  obtain ⟨A9, c9, rfl⟩ := hb.form hbl
  rw [hkl] at HK c1 ⊢
  obtain ⟨gk, ok, rfl, _⟩ := n4 (by omega)
  have HKL := Lib.hid hkl
  have HBL := Lib.hid hbl
  clear n4 hb hbl
  have HRT := Lib.hid (ptriple16 key b false hkl)
  clear hkl
  have hM0 : Below N w w := Below.refl _ _
  have hs0 : N ≤ w.heap.size := by omega
  have K_0 := Lib.hid (HK.out)
  have B_0 := Lib.hid (HB.out)
  clear HK HB
  go_enter Tryz.func66, Tryz.ntmps66
  go_wp2_with fail
  refine (rBlock_any false _ _ (key.take 8) b w (K_0.out.take (n := 8) (by rw [HKL.out]; decide)) (by simp [HKL.out]) B_0.out HBL.out).mono ?_
  rintro e w1 ⟨v0, rfl, hO, hL⟩
  have hM1 : Below N w w1 := below_more hM0 hL hs0
  have hs1 : N ≤ w1.heap.size := Nat.le_trans hs0 (hL).size
  have K_1 := Lib.hid (K_0.out.below hL)
  clear K_0
  have B_1 := Lib.hid (B_0.out.below hL)
  clear B_0
  clear hM0 hs0
  obtain ⟨A0, d0, rfl, _⟩ := hO.slB.formc (dblock_len _ _ _)
  have X0_1 := Lib.hid (hO)
  clear hL hO
  go_wp2_with fail
  refine (rBlock_any true _ _ ((key.drop 8).take 8) (dblock (key.take 8) b false) w1 ((K_1.out.drop (k := 8) (by rw [HKL.out]; decide)).take (n := 8) (by rw [List.length_drop, HKL.out]; decide)) (by simp [HKL.out]) X0_1.out.slB (dblock_len _ _ _)).mono ?_
  rintro e w2 ⟨v1, rfl, hO, hL⟩
  have hM2 : Below N w w2 := below_more hM1 hL hs1
  have hs2 : N ≤ w2.heap.size := Nat.le_trans hs1 (hL).size
  have K_2 := Lib.hid (K_1.out.below hL)
  clear K_1
  have B_2 := Lib.hid (B_1.out.below hL)
  clear B_1
  have X0_2 := Lib.hid (X0_1.out.under hL)
  clear X0_1
  clear hM1 hs1
  obtain ⟨A1, d1, rfl, _⟩ := hO.slB.formc (dblock_len _ _ _)
  have X1_2 := Lib.hid (hO)
  clear hL hO
  have hs9 := hs2
  go_wp2_with fail
  refine (rBlock_any false _ _ (key.take 8) (dblock ((key.drop 8).take 8) (dblock (key.take 8) b false) true) w2 (K_2.out.take (n := 8) (by rw [HKL.out]; decide)) (by simp [HKL.out]) X1_2.out.slB (dblock_len _ _ _)).mono ?_
  rintro e w3 ⟨v2, rfl, hO, hL⟩
  have hM3 : Below N w w3 := below_more hM2 hL hs2
  have hs3 : N ≤ w3.heap.size := Nat.le_trans hs2 (hL).size
  have K_3 := Lib.hid (K_2.out.below hL)
  clear K_2
  have B_3 := Lib.hid (B_2.out.below hL)
  clear B_2
  have X0_3 := Lib.hid (X0_2.out.under hL)
  clear X0_2
  have X1_3 := Lib.hid (X1_2.out.under hL)
  clear X1_2
  clear hM2 hs2
  go_wp2_with fail
  go_ret
  exact ⟨_, rfl, by rw [HN.out, HRT.out]; exact hO.lower hs9, by rw [HN.out]; exact hM3⟩
set_option maxHeartbeats 3200000 in
set_option maxRecDepth 100000 in
theorem rTriple16_true (vk vb : Value) (key b : List UInt8) (w : World) (hk : SlB w vk key) (hkl : key.length = 16) (hb : SlB w vb b) (hbl : b.length = 8) :
    Calls Tryz.prog 66 #[vk, vb, .bool true] w fun e w' => ∃ v, e = .returned v ∧ Own w' w.heap.size v (ptriple key b true) ∧ Below w.heap.size w w' := by
  obtain ⟨N, hN⟩ : ∃ N, w.heap.size = N := ⟨_, rfl⟩
  have HN := Lib.hid hN
  have HK := Lib.hid hk
  have HB := Lib.hid hb
  obtain ⟨A, c, rfl, _, c1, c2, n4⟩ := hk
  obtain ⟨A9, c9, rfl⟩ := hb.form hbl
  rw [hkl] at HK c1 ⊢
  obtain ⟨gk, ok, rfl, _⟩ := n4 (by omega)
  have HKL := Lib.hid hkl
  have HBL := Lib.hid hbl
  clear n4 hb hbl
  have HRT := Lib.hid (ptriple16 key b true hkl)
  clear hkl
  have hM0 : Below N w w := Below.refl _ _
  have hs0 : N ≤ w.heap.size := by omega
  have K_0 := Lib.hid (HK.out)
  have B_0 := Lib.hid (HB.out)
  clear HK HB
  go_enter Tryz.func66, Tryz.ntmps66
  go_wp2_with fail
  refine (rBlock_any true _ _ (key.take 8) b w (K_0.out.take (n := 8) (by rw [HKL.out]; decide)) (by simp [HKL.out]) B_0.out HBL.out).mono ?_
  rintro e w1 ⟨v0, rfl, hO, hL⟩
  have hM1 : Below N w w1 := below_more hM0 hL hs0
  have hs1 : N ≤ w1.heap.size := Nat.le_trans hs0 (hL).size
  have K_1 := Lib.hid (K_0.out.below hL)
  clear K_0
  have B_1 := Lib.hid (B_0.out.below hL)
  clear B_0
  clear hM0 hs0
  obtain ⟨A0, d0, rfl, _⟩ := hO.slB.formc (dblock_len _ _ _)
  have X0_1 := Lib.hid (hO)
  clear hL hO
  go_wp2_with fail
  refine (rBlock_any false _ _ ((key.drop 8).take 8) (dblock (key.take 8) b true) w1 ((K_1.out.drop (k := 8) (by rw [HKL.out]; decide)).take (n := 8) (by rw [List.length_drop, HKL.out]; decide)) (by simp [HKL.out]) X0_1.out.slB (dblock_len _ _ _)).mono ?_
  rintro e w2 ⟨v1, rfl, hO, hL⟩
  have hM2 : Below N w w2 := below_more hM1 hL hs1
  have hs2 : N ≤ w2.heap.size := Nat.le_trans hs1 (hL).size
  have K_2 := Lib.hid (K_1.out.below hL)
  clear K_1
  have B_2 := Lib.hid (B_1.out.below hL)
  clear B_1
  have X0_2 := Lib.hid (X0_1.out.under hL)
  clear X0_1
  clear hM1 hs1
  obtain ⟨A1, d1, rfl, _⟩ := hO.slB.formc (dblock_len _ _ _)
  have X1_2 := Lib.hid (hO)
  clear hL hO
  have hs9 := hs2
  go_wp2_with fail
  refine (rBlock_any true _ _ (key.take 8) (dblock ((key.drop 8).take 8) (dblock (key.take 8) b true) false) w2 (K_2.out.take (n := 8) (by rw [HKL.out]; decide)) (by simp [HKL.out]) X1_2.out.slB (dblock_len _ _ _)).mono ?_
  rintro e w3 ⟨v2, rfl, hO, hL⟩
  have hM3 : Below N w w3 := below_more hM2 hL hs2
  have hs3 : N ≤ w3.heap.size := Nat.le_trans hs2 (hL).size
  have K_3 := Lib.hid (K_2.out.below hL)
  clear K_2
  have B_3 := Lib.hid (B_2.out.below hL)
  clear B_2
  have X0_3 := Lib.hid (X0_2.out.under hL)
  clear X0_2
  have X1_3 := Lib.hid (X1_2.out.under hL)
  clear X1_2
  clear hM2 hs2
  go_wp2_with fail
  go_ret
  exact ⟨_, rfl, by rw [HN.out, HRT.out]; exact hO.lower hs9, by rw [HN.out]; exact hM3⟩
set_option maxHeartbeats 3200000 in
set_option maxRecDepth 100000 in
theorem rTriple24_false (vk vb : Value) (key b : List UInt8) (w : World) (hk : SlB w vk key) (hkl : key.length = 24) (hb : SlB w vb b) (hbl : b.length = 8) :
    Calls Tryz.prog 66 #[vk, vb, .bool false] w fun e w' => ∃ v, e = .returned v ∧ Own w' w.heap.size v (ptriple key b false) ∧ Below w.heap.size w w' := by
  obtain ⟨N, hN⟩ : ∃ N, w.heap.size = N := ⟨_, rfl⟩
  have HN := Lib.hid hN
  have HK := Lib.hid hk
  have HB := Lib.hid hb
  obtain ⟨A, c, rfl, _, c1, c2, n4⟩ := hk
  obtain ⟨A9, c9, rfl⟩ := hb.form hbl
  rw [hkl] at HK c1 ⊢
  obtain ⟨gk, ok, rfl, _⟩ := n4 (by omega)
  have HKL := Lib.hid hkl
  have HBL := Lib.hid hbl
  clear n4 hb hbl
  have HRT := Lib.hid (ptriple24 key b hkl).1
  clear hkl
  have hM0 : Below N w w := Below.refl _ _
  have hs0 : N ≤ w.heap.size := by omega
  have K_0 := Lib.hid (HK.out)
  have B_0 := Lib.hid (HB.out)
  clear HK HB
  go_enter Tryz.func66, Tryz.ntmps66
  go_wp2_with fail
  refine (rBlock_any false _ _ (key.take 8) b w (K_0.out.take (n := 8) (by rw [HKL.out]; decide)) (by simp [HKL.out]) B_0.out HBL.out).mono ?_
  rintro e w1 ⟨v0, rfl, hO, hL⟩
  have hM1 : Below N w w1 := below_more hM0 hL hs0
  have hs1 : N ≤ w1.heap.size := Nat.le_trans hs0 (hL).size
  have K_1 := Lib.hid (K_0.out.below hL)
  clear K_0
  have B_1 := Lib.hid (B_0.out.below hL)
  clear B_0
  clear hM0 hs0
  obtain ⟨A0, d0, rfl, _⟩ := hO.slB.formc (dblock_len _ _ _)
  have X0_1 := Lib.hid (hO)
  clear hL hO
  go_wp2_with fail
  refine (rBlock_any true _ _ ((key.drop 8).take 8) (dblock (key.take 8) b false) w1 ((K_1.out.drop (k := 8) (by rw [HKL.out]; decide)).take (n := 8) (by rw [List.length_drop, HKL.out]; decide)) (by simp [HKL.out]) X0_1.out.slB (dblock_len _ _ _)).mono ?_
  rintro e w2 ⟨v1, rfl, hO, hL⟩
  have hM2 : Below N w w2 := below_more hM1 hL hs1
  have hs2 : N ≤ w2.heap.size := Nat.le_trans hs1 (hL).size
  have K_2 := Lib.hid (K_1.out.below hL)
  clear K_1
  have B_2 := Lib.hid (B_1.out.below hL)
  clear B_1
  have X0_2 := Lib.hid (X0_1.out.under hL)
  clear X0_1
  clear hM1 hs1
  obtain ⟨A1, d1, rfl, _⟩ := hO.slB.formc (dblock_len _ _ _)
  have X1_2 := Lib.hid (hO)
  clear hL hO
  have hs9 := hs2
  go_wp2_with fail
  refine (rBlock_any false _ _ (key.drop 16) (dblock ((key.drop 8).take 8) (dblock (key.take 8) b false) true) w2 (K_2.out.drop (k := 16) (by rw [HKL.out]; decide)) (by simp [HKL.out]) X1_2.out.slB (dblock_len _ _ _)).mono ?_
  rintro e w3 ⟨v2, rfl, hO, hL⟩
  have hM3 : Below N w w3 := below_more hM2 hL hs2
  have hs3 : N ≤ w3.heap.size := Nat.le_trans hs2 (hL).size
  have K_3 := Lib.hid (K_2.out.below hL)
  clear K_2
  have B_3 := Lib.hid (B_2.out.below hL)
  clear B_2
  have X0_3 := Lib.hid (X0_2.out.under hL)
  clear X0_2
  have X1_3 := Lib.hid (X1_2.out.under hL)
  clear X1_2
  clear hM2 hs2
  go_wp2_with fail
  go_ret
  exact ⟨_, rfl, by rw [HN.out, HRT.out]; exact hO.lower hs9, by rw [HN.out]; exact hM3⟩
set_option maxHeartbeats 3200000 in
set_option maxRecDepth 100000 in
theorem rTriple24_true (vk vb : Value) (key b : List UInt8) (w : World) (hk : SlB w vk key) (hkl : key.length = 24) (hb : SlB w vb b) (hbl : b.length = 8) :
    Calls Tryz.prog 66 #[vk, vb, .bool true] w fun e w' => ∃ v, e = .returned v ∧ Own w' w.heap.size v (ptriple key b true) ∧ Below w.heap.size w w' := by
  obtain ⟨N, hN⟩ : ∃ N, w.heap.size = N := ⟨_, rfl⟩
  have HN := Lib.hid hN
  have HK := Lib.hid hk
  have HB := Lib.hid hb
  obtain ⟨A, c, rfl, _, c1, c2, n4⟩ := hk
  obtain ⟨A9, c9, rfl⟩ := hb.form hbl
  rw [hkl] at HK c1 ⊢
  obtain ⟨gk, ok, rfl, _⟩ := n4 (by omega)
  have HKL := Lib.hid hkl
  have HBL := Lib.hid hbl
  clear n4 hb hbl
  have HRT := Lib.hid (ptriple24 key b hkl).2
  clear hkl
  have hM0 : Below N w w := Below.refl _ _
  have hs0 : N ≤ w.heap.size := by omega
  have K_0 := Lib.hid (HK.out)
  have B_0 := Lib.hid (HB.out)
  clear HK HB
  go_enter Tryz.func66, Tryz.ntmps66
  go_wp2_with fail
  refine (rBlock_any true _ _ (key.drop 16) b w (K_0.out.drop (k := 16) (by rw [HKL.out]; decide)) (by simp [HKL.out]) B_0.out HBL.out).mono ?_
  rintro e w1 ⟨v0, rfl, hO, hL⟩
  have hM1 : Below N w w1 := below_more hM0 hL hs0
  have hs1 : N ≤ w1.heap.size := Nat.le_trans hs0 (hL).size
  have K_1 := Lib.hid (K_0.out.below hL)
  clear K_0
  have B_1 := Lib.hid (B_0.out.below hL)
  clear B_0
  clear hM0 hs0
  obtain ⟨A0, d0, rfl, _⟩ := hO.slB.formc (dblock_len _ _ _)
  have X0_1 := Lib.hid (hO)
  clear hL hO
  go_wp2_with fail
  refine (rBlock_any false _ _ ((key.drop 8).take 8) (dblock (key.drop 16) b true) w1 ((K_1.out.drop (k := 8) (by rw [HKL.out]; decide)).take (n := 8) (by rw [List.length_drop, HKL.out]; decide)) (by simp [HKL.out]) X0_1.out.slB (dblock_len _ _ _)).mono ?_
  rintro e w2 ⟨v1, rfl, hO, hL⟩
  have hM2 : Below N w w2 := below_more hM1 hL hs1
  have hs2 : N ≤ w2.heap.size := Nat.le_trans hs1 (hL).size
  have K_2 := Lib.hid (K_1.out.below hL)
  clear K_1
  have B_2 := Lib.hid (B_1.out.below hL)
  clear B_1
  have X0_2 := Lib.hid (X0_1.out.under hL)
  clear X0_1
  clear hM1 hs1
  obtain ⟨A1, d1, rfl, _⟩ := hO.slB.formc (dblock_len _ _ _)
  have X1_2 := Lib.hid (hO)
  clear hL hO
  have hs9 := hs2
  go_wp2_with fail
  refine (rBlock_any true _ _ (key.take 8) (dblock ((key.drop 8).take 8) (dblock (key.drop 16) b true) false) w2 (K_2.out.take (n := 8) (by rw [HKL.out]; decide)) (by simp [HKL.out]) X1_2.out.slB (dblock_len _ _ _)).mono ?_
  rintro e w3 ⟨v2, rfl, hO, hL⟩
  have hM3 : Below N w w3 := below_more hM2 hL hs2
  have hs3 : N ≤ w3.heap.size := Nat.le_trans hs2 (hL).size
  have K_3 := Lib.hid (K_2.out.below hL)
  clear K_2
  have B_3 := Lib.hid (B_2.out.below hL)
  clear B_2
  have X0_3 := Lib.hid (X0_2.out.under hL)
  clear X0_2
  have X1_3 := Lib.hid (X1_2.out.under hL)
  clear X1_2
  clear hM2 hs2
  go_wp2_with fail
  go_ret
  exact ⟨_, rfl, by rw [HN.out, HRT.out]; exact hO.lower hs9, by rw [HN.out]; exact hM3⟩
theorem rTriple_any (back : Bool) (vk vb : Value) (key b : List UInt8) (w : World) (hk : SlB w vk key) (hkl : key.length = 16 ∨ key.length = 24) (hb : SlB w vb b) (hbl : b.length = 8) :
    Calls Tryz.prog 66 #[vk, vb, .bool back] w fun e w' => ∃ v, e = .returned v ∧ Own w' w.heap.size v (ptriple key b back) ∧ Below w.heap.size w w' := by
  rcases hkl with h | h <;> cases back
  · exact rTriple16_false vk vb key b w hk h hb hbl
  · exact rTriple16_true vk vb key b w hk h hb hbl
  · exact rTriple24_false vk vb key b w hk h hb hbl
  · exact rTriple24_true vk vb key b w hk h hb hbl
end Go.Proofs.YtbbfjlnkhenbiaaGreatDoor
