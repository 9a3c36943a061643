/- Layer 19: the answers that the document fixes. -/
import Derived.Test.YtjbdhnmkeaogcaaTwo
set_option linter.unusedVariables false
set_option linter.unusedSimpArgs false
namespace Go.Proofs.Ytjbdhnmkeaogcaa
open Go.RowKit Lk
theorem One_arr (ar : Array Value) (vk vc : Value) (key code ans : List UInt8) (har : ar = Bs ans) (w : World) (hk : SlB w vk key) (hkl : key.length = 16) (hc : SlB w vc code) (hcl : code.length = 8) (hal : ans.length = 2) :
    Calls Try.prog 26 #[vk, vc, .agg ar] w fun e w' => ∃ v, e = .returned (.tuple #[v, .nilIface]) ∧ NewA w' w.heap.size v (pone key code ans) ∧ Below w.heap.size w w' := by
  subst har; exact One_any vk vc key code ans w hk hkl hc hcl hal
theorem Two_arr (ar : Array Value) (vk vc vm : Value) (key code st more : List UInt8) (har : ar = Bs st) (w : World) (hk : SlB w vk key) (hkl : key.length = 16) (hc : SlB w vc code) (hcl : code.length = 8) (hsl : st.length = 4) (hm : SlB w vm more) (hml : more.length ≤ 8) :
    Calls Try.prog 29 #[vk, vc, .agg ar, vm] w fun e w' => ∃ v, e = .returned (.tuple #[v, .nilIface]) ∧ Own w' w.heap.size v (ptwo key code st more) ∧ Below w.heap.size w w' := by
  subst har; exact Two_any vk vc vm key code st more w hk hkl hc hcl hsl hm hml
set_option maxHeartbeats 3200000 in
set_option maxRecDepth 100000 in
theorem awake19 (w : World) : Calls Try.prog 27 #[] w fun e w' => e = .returned (.bool true) ∧ Below w.heap.size w w' := by
  obtain ⟨N, hN⟩ : ∃ N, w.heap.size = N := ⟨_, rfl⟩
  have HN := Lib.hid hN
  obtain ⟨K, eK⟩ : ∃ K : List UInt8, List.replicate 16 0 = K := ⟨_, rfl⟩
  have hkl : K.length = 16 := by rw [← eK]; rfl
  have EK := Lib.hid eK
  have HKL := Lib.hid hkl
  clear eK hkl
  go_enter Try.func27, Try.ntmps27
  have hM0 : Below N w w := Below.refl _ _
  have hs0 : N ≤ w.heap.size := by omega
  go_wp2_with (first | (refine make_new rfl 22 5 _ _ rfl 16 (by kernel_rfl) (by kernel_rfl) .i64 .i64 rfl rfl (by omega) ?_; intro w1 hB1 hG1 hz1; have hL : Below w.heap.size w w1 := below_none (Below.refl _ _) (Nat.le_refl _) hG1; rw [EK.out, hN] at hB1; have hS := hB1.slB HKL.out (by decide); have hM1 : Below N w w1 := below_more hM0 hL hs0; have hs1 : N ≤ w1.heap.size := Nat.le_trans hs0 (hL).size; clear hM0 hs0; have K_1 := Lib.hid (hS); clear hL hB1 hG1 hz1 hS))
  go_wp2_with fail
  generalize hww2 : w1.alloc _ = w2
  have hBw2 : Blk w2 w1.heap.size 5 [1] := by rw [← hww2]; exact heap_alloc_new w1 _
  have hL : Below w1.heap.size w1 w2 := by rw [← hww2]; exact below_alloc (Below.refl _ _) (Nat.le_refl _) _
  clear hww2
  have hM2 : Below N w w2 := below_more hM1 hL hs1
  have hs2 : N ≤ w2.heap.size := Nat.le_trans hs1 (hL).size
  have K_2 := Lib.hid (K_1.out.below hL)
  clear K_1
  clear hM1 hs1
  clear hL
  have One_2 := Lib.hid (hBw2.slB (n := 1) rfl (by decide))
  clear hBw2
  refine (Make_any _ _ K [1] w2 K_2.out HKL.out One_2.out (by decide)).mono ?_
  rintro e w3 ⟨v, rfl, hO, hL⟩
  obtain ⟨C, eC⟩ : ∃ C, pretail K [1] = C := ⟨_, rfl⟩
  have hCl : C.length = 8 := by rw [← eC]; exact pretail_len _ _
  have EC := Lib.hid eC
  have HCL := Lib.hid hCl
  rw [eC] at hO
  obtain ⟨Ac, cc, rfl⟩ := hO.slB.form hCl
  clear eC hCl
  have hM3 : Below N w w3 := below_more hM2 hL hs2
  have hs3 : N ≤ w3.heap.size := Nat.le_trans hs2 (hL).size
  have K_3 := Lib.hid (K_2.out.below hL)
  clear K_2
  have One_3 := Lib.hid (One_2.out.below hL)
  clear One_2
  clear hM2 hs2
  have C_3 := Lib.hid (hO.slB)
  clear hO hL
  clear One_3
  go_wp2_with fail
  refine (One_arr #[.int .u8 0, .int .u8 0] _ _ K C [0, 0] (by rfl) w3 K_3.out HKL.out C_3.out HCL.out rfl).mono ?_
  rintro e w4 ⟨v, rfl, hO, hL⟩
  have hxl : (pone K C [0, 0]).length = 8 := ptriple_len _ _ _
  obtain ⟨gx, Tx, _, ex, _, _⟩ := hO
  rw [hxl] at ex
  subst ex
  clear hxl
  have hM4 : Below N w w4 := below_more hM3 hL hs3
  have hs4 : N ≤ w4.heap.size := Nat.le_trans hs3 (hL).size
  have K_4 := Lib.hid (K_3.out.below hL)
  clear K_3
  have C_4 := Lib.hid (C_3.out.below hL)
  clear C_3
  clear hM3 hs3
  clear hL
  go_wp2_with fail
  refine (Two_arr #[.int .u8 0, .int .u8 0, .int .u8 0, .int .u8 0] _ _ _ K C [0, 0, 0, 0] [] (by rfl) w4 K_4.out HKL.out C_4.out HCL.out rfl (slB_nil _) (by decide)).mono ?_
  rintro e w5 ⟨v, rfl, hO, hL⟩
  obtain ⟨Ay, cy, rfl⟩ := hO.slB.form (ptwo_len _ _ _ _)
  have hM5 : Below N w w5 := below_more hM4 hL hs4
  have hs5 : N ≤ w5.heap.size := Nat.le_trans hs4 (hL).size
  have K_5 := Lib.hid (K_4.out.below hL)
  clear K_4
  have C_5 := Lib.hid (C_4.out.below hL)
  clear C_4
  clear hM4 hs4
  clear hO hL
  go_wp2_with fail
  generalize hww6 : w5.alloc _ = w6
  have hBw6 : Blk w6 w5.heap.size 5 [1] := by rw [← hww6]; exact heap_alloc_new w5 _
  have hL : Below w5.heap.size w5 w6 := by rw [← hww6]; exact below_alloc (Below.refl _ _) (Nat.le_refl _) _
  clear hww6
  have hM6 : Below N w w6 := below_more hM5 hL hs5
  have hs6 : N ≤ w6.heap.size := Nat.le_trans hs5 (hL).size
  have K_6 := Lib.hid (K_5.out.below hL)
  clear K_5
  have C_6 := Lib.hid (C_5.out.below hL)
  clear C_5
  clear hM5 hs5
  clear hL
  have One_6 := Lib.hid (hBw6.slB (n := 1) rfl (by decide))
  clear hBw6
  refine (Verify_any _ _ _ K [1] C w6 K_6.out HKL.out One_6.out (by decide) C_6.out).mono ?_
  rintro e w7 ⟨rfl, hL⟩
  rw [EC.out, beq_self_eq_true, show sumErr true = .nilIface from rfl]
  have hM7 : Below N w w7 := below_more hM6 hL hs6
  have hs7 : N ≤ w7.heap.size := Nat.le_trans hs6 (hL).size
  have K_7 := Lib.hid (K_6.out.below hL)
  clear K_6
  have C_7 := Lib.hid (C_6.out.below hL)
  clear C_6
  have One_7 := Lib.hid (One_6.out.below hL)
  clear One_6
  clear hM6 hs6
  clear hL
  go_wp2_with fail
  go_ret
  exact ⟨rfl, by rw [HN.out]; exact hM7⟩
end Go.Proofs.Ytjbdhnmkeaogcaa
