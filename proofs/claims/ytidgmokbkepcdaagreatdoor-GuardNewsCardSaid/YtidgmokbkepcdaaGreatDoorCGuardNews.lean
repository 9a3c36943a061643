/- of whatever key and codes: a guard, or whose code is wrong -/
import Derived.Test.YtidgmokbkepcdaaGreatDoorKG2
import Derived.Test.YtidgmokbkepcdaaGreatDoorKG3
import Derived.Test.YtidgmokbkepcdaaGreatDoorKG0
import Derived.Test.YtidgmokbkepcdaaGreatDoorKB5
import Derived.Test.YtidgmokbkepcdaaGreatDoorKB0
import Derived.WalkKit
import Derived.ProofKit
import Derived.OpenShut
import Derived.ShutString
import Derived.ChangeOld
import Derived.SizedLaws
import Derived.ChangeSlices
import Derived.Test.YtidgmokbkepcdaaGreatDoorRows
import Derived.Test.YtidgmokbkepcdaaGreatDoorKB6
import Derived.ChangeSame
import Derived.ChangeVars
import Derived.JoinedOf
import Derived.RowKit
import Derived.RowKitTokens
import Derived.LaidLaws
import Derived.LaidHandle
import Derived.Stop.Joined
import Derived.SevenTiedAt
import Derived.Test.YtidgmokbkepcdaaGreatDoorCards
import Derived.Test.YtidgmokbkepcdaaGreatDoorTie
set_option linter.unusedVariables false
set_option linter.unusedSimpArgs false
namespace Go.Proofs.YtidgmokbkepcdaaGreatDoor
open Go Go.RowKit Lk
set_option maxHeartbeats 12800000 in
set_option maxRecDepth 100000 in
theorem GN_f0 (K : List UInt8) (c0 c1 : ByteArray) (w : World) (hE : Et w) (hk : K.length = 16) (hb : ¬ c0.size ≤ 100) : Calls Tryz.prog 8 #[.agg (Bs K), .string c0, .string c1] w fun e w' => e = .returned (.bool true) ∧ Below w.heap.size w w' := by
  obtain ⟨N, hN⟩ : ∃ N, w.heap.size = N := ⟨_, rfl⟩
  have HN := Lib.hid hN
  have HK := Lib.hid hk
  have HZ := Lib.hid zg_len
  clear hk
  have i1 : (100 : Int) < (c0.size : Int) := by omega
  clear hb
  have hM0 : Below N w w := Below.refl _ _
  have hs0 : N ≤ w.heap.size := by omega
  have E_0 := Lib.hid (hE)
  clear hE
  go_enter Tryz.func8, Tryz.ntmps8
  go_wp2_with (first | ((with_reducible show wpList _ _ _ _ _ w); refine box_blk (w := w) rfl 53 _ rfl K rfl ?_; intro u0 hA0 hG0 hz0; have hL : Below w.heap.size w u0 := below_none (Below.refl _ _) (Nat.le_refl _) hG0; rw [hN] at hA0 ⊢; clear hG0 hz0; have hM1 : Below N w u0 := below_more hM0 hL hs0; have hs1 : N ≤ u0.heap.size := Nat.le_trans hs0 (hL).size; have E_1 := Lib.hid (E_0.out.below hL); clear E_0; clear hM0 hs0; have K_1 := Lib.hid (hA0); clear hL hA0) | (go_at_call 39; (with_reducible show Calls _ _ _ u0 _); refine (awake24 u0 E_1.out).mono ?_; rintro e w2 ⟨rfl, hL⟩; have hM2 : Below N w w2 := below_more hM1 hL hs1; have hs2 : N ≤ w2.heap.size := Nat.le_trans hs1 (hL).size; have E_2 := Lib.hid (E_1.out.below hL); clear E_1; have K_2 := Lib.hid (K_1.out.under hL); clear K_1; clear hM1 hs1; clear hL) | (go_at_call 39; (with_reducible show Calls _ _ _ w2 _); refine (awake24 w2 E_2.out).mono ?_; rintro e w3 ⟨rfl, hL⟩; have hM3 : Below N w w3 := below_more hM2 hL hs2; have hs3 : N ≤ w3.heap.size := Nat.le_trans hs2 (hL).size; have E_3 := Lib.hid (E_2.out.below hL); clear E_2; have K_3 := Lib.hid (K_2.out.under hL); clear K_2; clear hM2 hs2; clear hL))
  go_ret
  exact ⟨rfl, by rw [HN.out]; exact hM3⟩
set_option maxHeartbeats 12800000 in
set_option maxRecDepth 100000 in
theorem GN_f1 (K : List UInt8) (c0 c1 : ByteArray) (w : World) (hE : Et w) (hk : K.length = 16) (ha : c0.size ≤ 100) (hb : ¬ c1.size ≤ 100) : Calls Tryz.prog 8 #[.agg (Bs K), .string c0, .string c1] w fun e w' => e = .returned (.bool true) ∧ Below w.heap.size w w' := by
  obtain ⟨N, hN⟩ : ∃ N, w.heap.size = N := ⟨_, rfl⟩
  have HN := Lib.hid hN
  have HK := Lib.hid hk
  have HZ := Lib.hid zg_len
  clear hk
  have i0 : ¬ (100 : Int) < (c0.size : Int) := by omega
  have i1 : (100 : Int) < (c1.size : Int) := by omega
  clear ha hb
  have hM0 : Below N w w := Below.refl _ _
  have hs0 : N ≤ w.heap.size := by omega
  have E_0 := Lib.hid (hE)
  clear hE
  go_enter Tryz.func8, Tryz.ntmps8
  go_wp2_with (first | ((with_reducible show wpList _ _ _ _ _ w); refine box_blk (w := w) rfl 53 _ rfl K rfl ?_; intro u0 hA0 hG0 hz0; have hL : Below w.heap.size w u0 := below_none (Below.refl _ _) (Nat.le_refl _) hG0; rw [hN] at hA0 ⊢; clear hG0 hz0; have hM1 : Below N w u0 := below_more hM0 hL hs0; have hs1 : N ≤ u0.heap.size := Nat.le_trans hs0 (hL).size; have E_1 := Lib.hid (E_0.out.below hL); clear E_0; clear hM0 hs0; have K_1 := Lib.hid (hA0); clear hL hA0) | (go_at_call 39; (with_reducible show Calls _ _ _ u0 _); refine (awake24 u0 E_1.out).mono ?_; rintro e w2 ⟨rfl, hL⟩; have hM2 : Below N w w2 := below_more hM1 hL hs1; have hs2 : N ≤ w2.heap.size := Nat.le_trans hs1 (hL).size; have E_2 := Lib.hid (E_1.out.below hL); clear E_1; have K_2 := Lib.hid (K_1.out.under hL); clear K_1; clear hM1 hs1; clear hL) | (go_at_call 39; (with_reducible show Calls _ _ _ w2 _); refine (awake24 w2 E_2.out).mono ?_; rintro e w3 ⟨rfl, hL⟩; have hM3 : Below N w w3 := below_more hM2 hL hs2; have hs3 : N ≤ w3.heap.size := Nat.le_trans hs2 (hL).size; have E_3 := Lib.hid (E_2.out.below hL); clear E_2; have K_3 := Lib.hid (K_2.out.under hL); clear K_2; clear hM2 hs2; clear hL))
  go_ret
  exact ⟨rfl, by rw [HN.out]; exact hM3⟩
set_option maxHeartbeats 12800000 in
set_option maxRecDepth 100000 in
theorem GN_b0 (K : List UInt8) (c0 c1 : ByteArray) (w : World) (hE : Et w) (hk : K.length = 16) (ha : c0.size ≤ 100) (hc : c1.size ≤ 100) (hb : c0.size < 4 ∨ 16 < c0.size) : Calls Tryz.prog 8 #[.agg (Bs K), .string c0, .string c1] w fun e w' => e = .returned (.bool true) ∧ Below w.heap.size w w' := by
  obtain ⟨N, hN⟩ : ∃ N, w.heap.size = N := ⟨_, rfl⟩
  have HN := Lib.hid hN
  have HK := Lib.hid hk
  have HZ := Lib.hid zg_len
  clear hk
  have HNW := Lib.hid (fun (w1 : World) => GNew_bad0 K c0 c1 w1 HK.out  (by omega) hb)
  have i0 : ¬ (100 : Int) < (c0.size : Int) := by omega
  have i1 : ¬ (100 : Int) < (c1.size : Int) := by omega
  have HB := Lib.hid hb
  have hqz := fun w => eql_zero w
  clear ha hb hc
  have hM0 : Below N w w := Below.refl _ _
  have hs0 : N ≤ w.heap.size := by omega
  have E_0 := Lib.hid (hE)
  clear hE
  go_enter Tryz.func8, Tryz.ntmps8
  go_wp2_with (first | ((with_reducible show wpList _ _ _ _ _ w); refine box_blk (w := w) rfl 53 _ rfl K rfl ?_; intro u0 hA0 hG0 hz0; have hL : Below w.heap.size w u0 := below_none (Below.refl _ _) (Nat.le_refl _) hG0; rw [hN] at hA0 ⊢; clear hG0 hz0; have hM1 : Below N w u0 := below_more hM0 hL hs0; have hs1 : N ≤ u0.heap.size := Nat.le_trans hs0 (hL).size; have E_1 := Lib.hid (E_0.out.below hL); clear E_0; clear hM0 hs0; have K_1 := Lib.hid (hA0); clear hL hA0) | (go_at_call 39; (with_reducible show Calls _ _ _ u0 _); refine (awake24 u0 E_1.out).mono ?_; rintro e w2 ⟨rfl, hL⟩; have hM2 : Below N w w2 := below_more hM1 hL hs1; have hs2 : N ≤ w2.heap.size := Nat.le_trans hs1 (hL).size; have E_2 := Lib.hid (E_1.out.below hL); clear E_1; have K_2 := Lib.hid (K_1.out.under hL); clear K_1; clear hM1 hs1; clear hL) | ((with_reducible show wpList _ _ _ _ _ w2); refine load_blk (w := w2) rfl 53 _ rfl N 53 16 5 K (by rfl) K_2.out HK.out (by kernel_rfl) (by kernel_rfl) ?_) | (go_at_call 40; (with_reducible show Calls _ _ _ w2 _); refine (HNW.out w2).mono ?_; rintro e w3c ⟨ve, rfl, hEr, hLc⟩) | ((with_reducible show wpList _ _ _ _ _ w3c); refine alloc_row (w := w3c) rfl gdt rfl (.agg (ga zg zg zg false false 0 0)) 52 (fun _ => by kernel_rfl) (by kernel_rfl) ?_; intro w3a hRa _ hGa hza) | ((with_reducible show wpList _ _ _ _ _ w3a); refine store_vr (w := w3a) rfl gdt _ _ rfl w3c.heap.size gdt 52 (gcs zg zg zg false false 0 0) (by rfl) (by rfl) hRa (gcs_one _ _ _ _ _ _ _) (gcs_len _ _ _ _ _ _ _ HZ.out HZ.out HZ.out) gdt_i ?_; intro w3 hBb hGb hzb; have hL : Below w2.heap.size w2 w3 := below_new (below_none hLc hLc.size hGa) (by have := hLc.size; omega) hGb hLc.size; obtain ⟨Gg, eGx⟩ : ∃ g, w3c.heap.size = g := ⟨_, rfl⟩; have hgB : GB w3 Gg gdt zg zg zg false false 0 0 := (by rw [← eGx]; exact hBb); rw [eGx]; have hEx := hEr.below (below_new (below_none (Below.refl _ _) (Nat.le_refl _) hGa) hGa.size hGb (Nat.le_refl _)); clear hEr hRa hGa hza hBb hGb hzb hLc eGx; have hM3 : Below N w w3 := below_more hM2 hL hs2; have hs3 : N ≤ w3.heap.size := Nat.le_trans hs2 (hL).size; have E_3 := Lib.hid (E_2.out.below hL); clear E_2; have K_3 := Lib.hid (K_2.out.under hL); clear K_2; clear hM2 hs2; have g_3 := Lib.hid (hgB); clear hL hgB; have V_3 := Lib.hid (hEx); clear hEx) | (go_at_call 41; (with_reducible show Calls _ _ #[.string c0] w3 _); refine (right24_no c0 w3 HB.out).mono ?_; rintro e w3 ⟨rfl, rfl⟩) | (go_at_call 18; (with_reducible show Calls _ _ _ w3 _); refine (Code_any [0] 2 _ w3 E_3.out V_3.out).mono ?_; rintro e w4 ⟨rfl, hL⟩; have hM4 : Below N w w4 := below_more hM3 hL hs3; have hs4 : N ≤ w4.heap.size := Nat.le_trans hs3 (hL).size; have E_4 := Lib.hid (E_3.out.below hL); clear E_3; have K_4 := Lib.hid (K_3.out.under hL); clear K_3; have g_4 := Lib.hid (g_3.out.next hL); clear g_3; have V_4 := Lib.hid (V_3.out.below hL); clear V_3; clear hM3 hs3; clear hL) | (go_at_call 20; (with_reducible show Calls _ _ _ w4 _); refine (At_yes 0 [] 2 _ w4 E_4.out V_4.out).mono ?_; rintro e w5 ⟨rfl, hL⟩; have hM5 : Below N w w5 := below_more hM4 hL hs4; have hs5 : N ≤ w5.heap.size := Nat.le_trans hs4 (hL).size; have E_5 := Lib.hid (E_4.out.below hL); clear E_4; have K_5 := Lib.hid (K_4.out.under hL); clear K_4; have g_5 := Lib.hid (g_4.out.next hL); clear g_4; have V_5 := Lib.hid (V_4.out.below hL); clear V_4; clear hM4 hs4; clear hL) | ((with_reducible show wpList _ _ _ _ _ w5); refine load_gd (w := w5) (by rfl) _ rfl Gg gdt zg zg zg false false 0 0 (by rfl) g_5.out HZ.out HZ.out HZ.out ?_) | ((with_reducible show wpList _ _ _ _ _ w5); refine op_build0g (w := w5) (by rfl) gdt rfl (.agg (ga zg zg zg false false 0 0)) build_guard0 ?_) | ((with_reducible show wpList _ _ _ _ _ w5); refine op_eqlg (w := w5) (by rfl) gdt _ _ _ rfl (ga zg zg zg false false 0 0) (ga zg zg zg false false 0 0) (by rfl) (by rfl) (by kernel_rfl) true (fun w => eql_zero w) ?_))
  go_ret
  exact ⟨rfl, by rw [HN.out]; exact hM5⟩
set_option maxHeartbeats 12800000 in
set_option maxRecDepth 100000 in
theorem GN_b1 (K : List UInt8) (c0 c1 : ByteArray) (w : World) (hE : Et w) (hk : K.length = 16) (ha : c0.size ≤ 100) (hc : c1.size ≤ 100) (h1 : 4 ≤ c0.size) (h2 : c0.size ≤ 16) (hb : c1.size < 4 ∨ 16 < c1.size) : Calls Tryz.prog 8 #[.agg (Bs K), .string c0, .string c1] w fun e w' => e = .returned (.bool true) ∧ Below w.heap.size w w' := by
  obtain ⟨N, hN⟩ : ∃ N, w.heap.size = N := ⟨_, rfl⟩
  have HN := Lib.hid hN
  have HK := Lib.hid hk
  have HZ := Lib.hid zg_len
  clear hk
  have HNW := Lib.hid (fun (w1 : World) => GNew_bad1 K c0 c1 w1 HK.out h1 h2 (by omega) hb)
  have i0 : ¬ (100 : Int) < (c0.size : Int) := by omega
  have i1 : ¬ (100 : Int) < (c1.size : Int) := by omega
  have HB := Lib.hid hb
  have HR1 := Lib.hid h1
  have HR2 := Lib.hid h2
  have hqz := fun w => eql_zero w
  clear ha hb hc h1 h2
  have hM0 : Below N w w := Below.refl _ _
  have hs0 : N ≤ w.heap.size := by omega
  have E_0 := Lib.hid (hE)
  clear hE
  go_enter Tryz.func8, Tryz.ntmps8
  go_wp2_with (first | ((with_reducible show wpList _ _ _ _ _ w); refine box_blk (w := w) rfl 53 _ rfl K rfl ?_; intro u0 hA0 hG0 hz0; have hL : Below w.heap.size w u0 := below_none (Below.refl _ _) (Nat.le_refl _) hG0; rw [hN] at hA0 ⊢; clear hG0 hz0; have hM1 : Below N w u0 := below_more hM0 hL hs0; have hs1 : N ≤ u0.heap.size := Nat.le_trans hs0 (hL).size; have E_1 := Lib.hid (E_0.out.below hL); clear E_0; clear hM0 hs0; have K_1 := Lib.hid (hA0); clear hL hA0) | (go_at_call 39; (with_reducible show Calls _ _ _ u0 _); refine (awake24 u0 E_1.out).mono ?_; rintro e w2 ⟨rfl, hL⟩; have hM2 : Below N w w2 := below_more hM1 hL hs1; have hs2 : N ≤ w2.heap.size := Nat.le_trans hs1 (hL).size; have E_2 := Lib.hid (E_1.out.below hL); clear E_1; have K_2 := Lib.hid (K_1.out.under hL); clear K_1; clear hM1 hs1; clear hL) | ((with_reducible show wpList _ _ _ _ _ w2); refine load_blk (w := w2) rfl 53 _ rfl N 53 16 5 K (by rfl) K_2.out HK.out (by kernel_rfl) (by kernel_rfl) ?_) | (go_at_call 40; (with_reducible show Calls _ _ _ w2 _); refine (HNW.out w2).mono ?_; rintro e w3c ⟨ve, rfl, hEr, hLc⟩) | ((with_reducible show wpList _ _ _ _ _ w3c); refine alloc_row (w := w3c) rfl gdt rfl (.agg (ga zg zg zg false false 0 0)) 52 (fun _ => by kernel_rfl) (by kernel_rfl) ?_; intro w3a hRa _ hGa hza) | ((with_reducible show wpList _ _ _ _ _ w3a); refine store_vr (w := w3a) rfl gdt _ _ rfl w3c.heap.size gdt 52 (gcs zg zg zg false false 0 0) (by rfl) (by rfl) hRa (gcs_one _ _ _ _ _ _ _) (gcs_len _ _ _ _ _ _ _ HZ.out HZ.out HZ.out) gdt_i ?_; intro w3 hBb hGb hzb; have hL : Below w2.heap.size w2 w3 := below_new (below_none hLc hLc.size hGa) (by have := hLc.size; omega) hGb hLc.size; obtain ⟨Gg, eGx⟩ : ∃ g, w3c.heap.size = g := ⟨_, rfl⟩; have hgB : GB w3 Gg gdt zg zg zg false false 0 0 := (by rw [← eGx]; exact hBb); rw [eGx]; have hEx := hEr.below (below_new (below_none (Below.refl _ _) (Nat.le_refl _) hGa) hGa.size hGb (Nat.le_refl _)); clear hEr hRa hGa hza hBb hGb hzb hLc eGx; have hM3 : Below N w w3 := below_more hM2 hL hs2; have hs3 : N ≤ w3.heap.size := Nat.le_trans hs2 (hL).size; have E_3 := Lib.hid (E_2.out.below hL); clear E_2; have K_3 := Lib.hid (K_2.out.under hL); clear K_2; clear hM2 hs2; have g_3 := Lib.hid (hgB); clear hL hgB; have V_3 := Lib.hid (hEx); clear hEx) | (go_at_call 41; (with_reducible show Calls _ _ #[.string c0] w3 _); refine (right24_yes c0 w3 HR1.out HR2.out).mono ?_; rintro e w3 ⟨rfl, rfl⟩) | (go_at_call 41; (with_reducible show Calls _ _ #[.string c1] w3 _); refine (right24_no c1 w3 HB.out).mono ?_; rintro e w3 ⟨rfl, rfl⟩) | (go_at_call 18; (with_reducible show Calls _ _ _ w3 _); refine (Code_any [1] 2 _ w3 E_3.out V_3.out).mono ?_; rintro e w4 ⟨rfl, hL⟩; have hM4 : Below N w w4 := below_more hM3 hL hs3; have hs4 : N ≤ w4.heap.size := Nat.le_trans hs3 (hL).size; have E_4 := Lib.hid (E_3.out.below hL); clear E_3; have K_4 := Lib.hid (K_3.out.under hL); clear K_3; have g_4 := Lib.hid (g_3.out.next hL); clear g_3; have V_4 := Lib.hid (V_3.out.below hL); clear V_3; clear hM3 hs3; clear hL) | (go_at_call 20; (with_reducible show Calls _ _ _ w4 _); refine (At_yes 1 [] 2 _ w4 E_4.out V_4.out).mono ?_; rintro e w5 ⟨rfl, hL⟩; have hM5 : Below N w w5 := below_more hM4 hL hs4; have hs5 : N ≤ w5.heap.size := Nat.le_trans hs4 (hL).size; have E_5 := Lib.hid (E_4.out.below hL); clear E_4; have K_5 := Lib.hid (K_4.out.under hL); clear K_4; have g_5 := Lib.hid (g_4.out.next hL); clear g_4; have V_5 := Lib.hid (V_4.out.below hL); clear V_4; clear hM4 hs4; clear hL) | ((with_reducible show wpList _ _ _ _ _ w5); refine load_gd (w := w5) (by rfl) _ rfl Gg gdt zg zg zg false false 0 0 (by rfl) g_5.out HZ.out HZ.out HZ.out ?_) | ((with_reducible show wpList _ _ _ _ _ w5); refine op_build0g (w := w5) (by rfl) gdt rfl (.agg (ga zg zg zg false false 0 0)) build_guard0 ?_) | ((with_reducible show wpList _ _ _ _ _ w5); refine op_eqlg (w := w5) (by rfl) gdt _ _ _ rfl (ga zg zg zg false false 0 0) (ga zg zg zg false false 0 0) (by rfl) (by rfl) (by kernel_rfl) true (fun w => eql_zero w) ?_))
  go_ret
  exact ⟨rfl, by rw [HN.out]; exact hM5⟩
end Go.Proofs.YtidgmokbkepcdaaGreatDoor
set_option linter.unusedVariables false
set_option linter.unusedSimpArgs false
namespace Go.Proofs.YtidgmokbkepcdaaGreatDoor
open Go Go.RowKit Lk
section
variable {P : Program} {ops : Array Oper} {Q : Exit → Act → World → Prop} {md : Region.Mode} {S : World → Prop}
/-- wpOp behind a door that no one opens by chance (a let in the goal makes the end of a proof reckon the types of its parts). -/
structure OpH (P : Program) (ops : Array Oper) (Q : Exit → Act → World → Prop) (i : Nat) (K : Act → World → Prop) (a : Act) (w : World) : Prop where
  h : wpOp P ops Q i K a w
theorem wpAnyH_one (i : Nat) {fuel : Nat} {listed : Array Bool} {a : Act} {w : World} (hr : Region.ready md ops listed = [i])
    (h : OpH P ops Q i (fun a' w' => S w' ∧ wpAnyH P md ops Q S fuel (listed.setIfInBounds i true) a' w') a w) : wpAnyH P md ops Q S (fuel + 1) listed a w :=
  wpAnyH_all hr (by simp) (fun j hj => by rw [List.mem_singleton] at hj; rw [hj]; exact h.h)
theorem wpAnyH_taked {i : Nat} (d : Option Nat) {oi : Oper} {v : Value} {fuel : Nat} {listed : Array Bool} {a : Act} {w : World} (hi : ops[i]? = some oi) (hd : oi.dst = d)
    (hs : Region.noSelect ops = true) (hf : Region.free md ops listed i = true) (hr : (Region.ready md ops listed).contains i = true)
    (hQ : ∀ c a w, Q (.panic c) (a.put d v) w → Q (.panic c) a w) (hy : YieldsIf P ops S oi v a) (hS : S w)
    (h : wpAnyH P md ops Q S fuel (listed.setIfInBounds i true) (a.put d v) w) : wpAnyH P md ops Q S (fuel + 1) listed a w := by
  subst hd; exact wpAnyH_take hi hs hf hr hQ hy hS h
theorem wpOp_enterEd {K : Act → World → Prop} {i : Nat} {o : Oper} {a : Act} {w : World} (d : Option Nat) (hi : ops[i]? = some o) (hd : o.dst = d) (hw : Region.wanted o (yielded ops a.tmps) = true) (f : FuncId) (args : Array Value) (G : Value → World → Prop) (h : (execOp a.eval o).run P w = .ok (.enter f args) w)
    (hc : Calls P f args w fun e w' => ∃ v, e = .returned v ∧ G v w') (hk : ∀ v w', G v w' → K (a.put d v) w') : OpH P ops Q i K a w := by
  subst hd; exact ⟨wpOp_enterE hi hw f args G h hc hk⟩
end
theorem eqIn_2b (w : World) (d : Nat) : (Op.equalIn (d + 5) 71 (.agg #[.bool false, .bool false]) (.agg #[.bool false, .bool false])).run Tryz.prog w = .ok true w := by kernel_rfl
theorem eql_2b (w : World) : (binOp .eql 71 (.agg #[.bool false, .bool false]) (.agg #[.bool false, .bool false])).run Tryz.prog w = .ok (.bool true) w := by
  have h : (Op.equalIn 10000 71 (.agg #[.bool false, .bool false]) (.agg #[.bool false, .bool false])).run Tryz.prog w = .ok true w := eqIn_2b w 9995
  simp [binOp, Op.equal, Op.maxDepth, h]
theorem eqIn_2i (w : World) (d : Nat) : (Op.equalIn (d + 5) 72 (.agg #[.int .i64 0, .int .i64 0]) (.agg #[.int .i64 0, .int .i64 0])).run Tryz.prog w = .ok true w := by kernel_rfl
theorem eql_2i (w : World) : (binOp .eql 72 (.agg #[.int .i64 0, .int .i64 0]) (.agg #[.int .i64 0, .int .i64 0])).run Tryz.prog w = .ok (.bool true) w := by
  have h : (Op.equalIn 10000 72 (.agg #[.int .i64 0, .int .i64 0]) (.agg #[.int .i64 0, .int .i64 0])).run Tryz.prog w = .ok true w := eqIn_2i w 9995
  simp [binOp, Op.equal, Op.maxDepth, h]
theorem gcs_mid2 (k t0 t1 : List UInt8) (a b : Bool) (m n : Int) (hk : k.length = 16) (h0 : t0.length = 16) (h1 : t1.length = 16) : ((gcs k t0 t1 a b m n).drop 50).take 2 = [.int .i64 m, .int .i64 n] := by
  unfold gcs
  have e : Bl k ++ (Bl t0 ++ (Bl t1 ++ [.bool a, .bool b, .int .i64 m, .int .i64 n])) = (Bl k ++ (Bl t0 ++ (Bl t1 ++ [.bool a, .bool b]))) ++ [.int .i64 m, .int .i64 n] := by simp
  rw [e, List.drop_left' (by simp only [List.length_append, Bl_len, hk, h0, h1, List.length_cons, List.length_nil])]
  rfl
set_option maxHeartbeats 12800000 in
set_option maxRecDepth 100000 in
theorem GN_ok (K : List UInt8) (c0 c1 : ByteArray) (w : World) (hE : Et w) (hk : K.length = 16) (h1 : 4 ≤ c0.size) (h2 : c0.size ≤ 16) (h3 : 4 ≤ c1.size) (h4 : c1.size ≤ 16) : Calls Tryz.prog 8 #[.agg (Bs K), .string c0, .string c1] w fun e w' => e = .returned (.bool true) ∧ Below w.heap.size w w' := by
  obtain ⟨N, hN⟩ : ∃ N, w.heap.size = N := ⟨_, rfl⟩
  have HN := Lib.hid hN
  have HK := Lib.hid hk
  have HZ := Lib.hid zg_len
  clear hk
  obtain ⟨T0, eT0⟩ : ∃ t, ptag K 0 c0 = t := ⟨_, rfl⟩
  obtain ⟨T1, eT1⟩ : ∃ t, ptag K 1 c1 = t := ⟨_, rfl⟩
  have H0 := Lib.hid (show T0.length = 16 by rw [← eT0]; exact ptag_len _ _ _)
  have H1 := Lib.hid (show T1.length = 16 by rw [← eT1]; exact ptag_len _ _ _)
  have HNW := Lib.hid (fun (w1 : World) => GNew_yes K c0 c1 w1 HK.out h1 h2 h3 h4)
  rw [eT0, eT1] at HNW
  have ET0 := Lib.hid eT0
  have ET1 := Lib.hid eT1
  have R01 := Lib.hid h1
  have R02 := Lib.hid h2
  have R11 := Lib.hid h3
  have R12 := Lib.hid h4
  have HC0 := Lib.hid (show c0.size ≤ 500 by omega)
  have HC1 := Lib.hid (show c1.size ≤ 500 by omega)
  have HT0 := Lib.hid (fun (w1 : World) => show Calls Tryz.prog 42 #[.agg (Bs K), .int .i64 0, .string c0] w1 fun e w' => ∃ v, e = .returned v ∧ (SlB w' v T0 ∧ Below w1.heap.size w1 w') from (rtag_any K 0 0 c0 w1 rfl HK.out HC0.out).mono fun e w9 ⟨vd, q1, q2, q3⟩ => ⟨vd, q1, by rw [← ET0.out]; exact q2, q3⟩)
  have HT1 := Lib.hid (fun (w1 : World) => show Calls Tryz.prog 42 #[.agg (Bs K), .int .i64 1, .string c1] w1 fun e w' => ∃ v, e = .returned v ∧ (SlB w' v T1 ∧ Below w1.heap.size w1 w') from (rtag_any K 1 1 c1 w1 rfl HK.out HC1.out).mono fun e w9 ⟨vd, q1, q2, q3⟩ => ⟨vd, q1, by rw [← ET1.out]; exact q2, q3⟩)
  have hqk := fun w => run_eql_bs (P := Tryz.prog) w (t := 53) (e := 5) K K (by kernel_rfl) (by kernel_rfl) (by kernel_rfl) (by kernel_rfl) HK.out HK.out
  simp only [beq_self_eq_true] at hqk
  have hqb := fun w => eql_2b w
  have hqi := fun w => eql_2i w
  have i0 : ¬ (100 : Int) < (c0.size : Int) := by omega
  have i1 : ¬ (100 : Int) < (c1.size : Int) := by omega
  clear h1 h2 h3 h4 eT0 eT1
  have hM0 : Below N w w := Below.refl _ _
  have hs0 : N ≤ w.heap.size := by omega
  have E_0 := Lib.hid (hE)
  clear hE
  go_enter Tryz.func8, Tryz.ntmps8
  go_wp2_with (first | ((with_reducible show wpList _ _ _ _ _ w); refine box_blk (w := w) rfl 53 _ rfl K rfl ?_; intro u0 hA0 hG0 hz0; have hL : Below w.heap.size w u0 := below_none (Below.refl _ _) (Nat.le_refl _) hG0; rw [hN] at hA0 ⊢; clear hG0 hz0; have hM1 : Below N w u0 := below_more hM0 hL hs0; have hs1 : N ≤ u0.heap.size := Nat.le_trans hs0 (hL).size; have E_1 := Lib.hid (E_0.out.below hL); clear E_0; clear hM0 hs0; have K_1 := Lib.hid (hA0); clear hL hA0) | (go_at_call 39; (with_reducible show Calls _ _ _ u0 _); refine (awake24 u0 E_1.out).mono ?_; rintro e w2 ⟨rfl, hL⟩; have hM2 : Below N w w2 := below_more hM1 hL hs1; have hs2 : N ≤ w2.heap.size := Nat.le_trans hs1 (hL).size; have E_2 := Lib.hid (E_1.out.below hL); clear E_1; have K_2 := Lib.hid (K_1.out.under hL); clear K_1; clear hM1 hs1; clear hL) | ((with_reducible show wpList _ _ _ _ _ w2); refine load_blk (w := w2) rfl 53 _ rfl N 53 16 5 K (by rfl) K_2.out HK.out (by kernel_rfl) (by kernel_rfl) ?_) | (go_at_call 40; (with_reducible show Calls _ _ _ w2 _); refine (HNW.out w2).mono ?_; rintro e w3c ⟨rfl, hLc⟩) | ((with_reducible show wpList _ _ _ _ _ w3c); refine alloc_row (w := w3c) rfl gdt rfl (.agg (ga zg zg zg false false 0 0)) 52 (fun _ => by kernel_rfl) (by kernel_rfl) ?_; intro w3a hRa _ hGa hza) | ((with_reducible show wpList _ _ _ _ _ w3a); refine store_vr (w := w3a) rfl gdt _ _ rfl w3c.heap.size gdt 52 (gcs K T0 T1 false false 0 0) (by rfl) (by rfl) hRa (gcs_one _ _ _ _ _ _ _) (gcs_len _ _ _ _ _ _ _ HK.out H0.out H1.out) gdt_i ?_; intro w3 hBb hGb hzb; have hL : Below w2.heap.size w2 w3 := below_new (below_none hLc hLc.size hGa) (by have := hLc.size; omega) hGb hLc.size; obtain ⟨Gg, eGx⟩ : ∃ g, w3c.heap.size = g := ⟨_, rfl⟩; have hgB : GB w3 Gg gdt K T0 T1 false false 0 0 := (by rw [← eGx]; exact hBb); rw [eGx]; clear hRa hGa hza hBb hGb hzb hLc eGx; have hM3 : Below N w w3 := below_more hM2 hL hs2; have hs3 : N ≤ w3.heap.size := Nat.le_trans hs2 (hL).size; have E_3 := Lib.hid (E_2.out.below hL); clear E_2; have K_3 := Lib.hid (K_2.out.under hL); clear K_2; clear hM2 hs2; have g_3 := Lib.hid (hgB); clear hL hgB) | (go_at_call 41; (with_reducible show Calls _ _ #[.string c0] w3 _); refine (right24_yes c0 w3 R01.out R02.out).mono ?_; rintro e w3 ⟨rfl, rfl⟩) | (go_at_call 41; (with_reducible show Calls _ _ #[.string c1] w3 _); refine (right24_yes c1 w3 R11.out R12.out).mono ?_; rintro e w3 ⟨rfl, rfl⟩))
  obtain ⟨M, eM⟩ : ∃ M, w3.heap.size = M := ⟨_, rfl⟩
  have HSM := Lib.hid (show ∀ w9, Below M w3 w9 → Below w3.heap.size w3 w9 from fun w9 h => by rw [eM]; exact h)
  have hS : Below M w3 w3.drew := ⟨rfl, rfl, rfl, Nat.le_refl _, fun _ _ => rfl⟩
  have HGk := Lib.hid (show ∀ w9, Below M w3 w9 → GB w9 Gg gdt K T0 T1 false false 0 0 from fun w9 h => g_3.out.next (HSM.out w9 h))
  have HKk := Lib.hid (show ∀ w9, Below M w3 w9 → Blk w9 N 53 K from fun w9 h => K_3.out.under (HSM.out w9 h))
  refine wp_region_held (S := fun w9 => Below M w3 w9) (by kernel_rfl) ?_
  show wpAnyH _ _ _ _ _ 39 _ _ w3.drew
  refine wpAnyH_taked (i := 0) (some 61) rfl (by kernel_rfl) (by kernel_rfl) (by kernel_rfl) (by kernel_rfl) (fun _ _ _ h => h) (yields_val (by kernel_rfl) (.nilIface) (fun w => by kernel_rfl)) hS ?_
  refine wpAnyH_taked (i := 1) (some 62) rfl (by kernel_rfl) (by kernel_rfl) (by kernel_rfl) (by kernel_rfl) (fun _ _ _ h => h) (yields_val (by kernel_rfl) (.bool true) (fun w => by kernel_rfl)) hS ?_
  refine wpAnyH_taked (i := 2) (some 63) rfl (by kernel_rfl) (by kernel_rfl) (by kernel_rfl) (by kernel_rfl) (fun _ _ _ h => h) (yields_val (by kernel_rfl) (.bool true) (fun w => by kernel_rfl)) hS ?_
  refine wpAnyH_taked (i := 3) (some 64) rfl (by kernel_rfl) (by kernel_rfl) (by kernel_rfl) (by kernel_rfl) (fun _ _ _ h => h) (yields_val (by kernel_rfl) (.pointer (some ⟨Gg, 0, none⟩)) (fun w => by kernel_rfl)) hS ?_
  refine wpAnyH_taked (i := 4) (some 65) rfl (by kernel_rfl) (by kernel_rfl) (by kernel_rfl) (by kernel_rfl) (fun _ _ _ h => h) (yields_load (by kernel_rfl) 53 _ rfl Gg 0 16 5 K (by kernel_rfl) (fun w9 h9 => (HGk.out w9 h9).key) HK.out (by kernel_rfl) (by kernel_rfl)) hS ?_
  refine wpAnyH_taked (i := 5) (some 66) rfl (by kernel_rfl) (by kernel_rfl) (by kernel_rfl) (by kernel_rfl) (fun _ _ _ h => h) (yields_load (by kernel_rfl) 53 _ rfl N 0 16 5 K (by kernel_rfl) (fun w9 h9 => (HKk.out w9 h9).rd0) HK.out (by kernel_rfl) (by kernel_rfl)) hS ?_
  refine wpAnyH_taked (i := 6) (some 67) rfl (by kernel_rfl) (by kernel_rfl) (by kernel_rfl) (by kernel_rfl) (fun _ _ _ h => h) (yields_eql (by kernel_rfl) 53 _ _ _ rfl (Bs K) (Bs K) (by kernel_rfl) (by kernel_rfl) (by kernel_rfl) true hqk) hS ?_
  refine wpAnyH_taked (i := 7) (some 68) rfl (by kernel_rfl) (by kernel_rfl) (by kernel_rfl) (by kernel_rfl) (fun _ _ _ h => h) (yields_val (by kernel_rfl) (.bool true) (fun w => by kernel_rfl)) hS ?_
  refine wpAnyH_taked (i := 8) (some 69) rfl (by kernel_rfl) (by kernel_rfl) (by kernel_rfl) (by kernel_rfl) (fun _ _ _ h => h) (yields_val (by kernel_rfl) (.bool true) (fun w => by kernel_rfl)) hS ?_
  refine wpAnyH_taked (i := 9) (some 70) rfl (by kernel_rfl) (by kernel_rfl) (by kernel_rfl) (by kernel_rfl) (fun _ _ _ h => h) (yields_val (by kernel_rfl) (.pointer (some ⟨Gg, 16, none⟩)) (fun w => by kernel_rfl)) hS ?_
  refine wpAnyH_taked (i := 10) (some 71) rfl (by kernel_rfl) (by kernel_rfl) (by kernel_rfl) (by kernel_rfl) (fun _ _ _ h => h) (yields_val (by kernel_rfl) (.pointer (some ⟨Gg, 16, none⟩)) (fun w => by kernel_rfl)) hS ?_
  refine wpAnyH_taked (i := 11) (some 72) rfl (by kernel_rfl) (by kernel_rfl) (by kernel_rfl) (by kernel_rfl) (fun _ _ _ h => h) (yields_val (by kernel_rfl) (.slice (some ⟨Gg, 16, none⟩) 16 16) (fun w => by kernel_rfl)) hS ?_
  refine wpAnyH_taked (i := 12) (some 73) rfl (by kernel_rfl) (by kernel_rfl) (by kernel_rfl) (by kernel_rfl) (fun _ _ _ h => h) (yields_load (by kernel_rfl) 53 _ rfl N 0 16 5 K (by kernel_rfl) (fun w9 h9 => (HKk.out w9 h9).rd0) HK.out (by kernel_rfl) (by kernel_rfl)) hS ?_
  refine wpAnyH_taked (i := 13) (some 74) rfl (by kernel_rfl) (by kernel_rfl) (by kernel_rfl) (by kernel_rfl) (fun _ _ _ h => h) (yields_val (by kernel_rfl) (.string c0) (fun w => by kernel_rfl)) hS ?_
  refine wpAnyH_one 14 (by kernel_rfl) ?_
  refine wpOp_enterEd (some 75) rfl (by kernel_rfl) (by kernel_rfl) 42 #[.agg (Bs K), .int .i64 0, .string c0] (fun v w9 => SlB w9 v T0 ∧ Below w3.drew.heap.size w3.drew w9) (by kernel_rfl) (HT0.out w3.drew) ?_
  rintro vt0 v5 ⟨hD, hL⟩
  have hS : Below M w3 v5 := below_more hS hL (by have := hS.size; omega)
  refine ⟨hS, ?_⟩
  refine wpAnyH_one 15 (by kernel_rfl) ?_
  refine wpOp_enterEd (some 76) rfl (by kernel_rfl) (by kernel_rfl) 21 #[.slice (some ⟨Gg, 16, none⟩) 16 16, vt0] (fun v w9 => v = .bool true ∧ Below v5.heap.size v5 w9) (by kernel_rfl) ((Same_any _ _ T0 T0 v5 (VB.rdS (cs := []) ((HGk.out v5 hS).tag0 HK.out) H0.out) hD (by rw [H0.out]; decide)).mono fun e w9 ⟨q1, q2⟩ => ⟨_, q1, by rw [beq_self_eq_true], q2.below0⟩) ?_
  rintro v9 v5b ⟨rfl, hL⟩
  have hS : Below M w3 v5b := below_more hS hL (by have := hS.size; omega)
  refine ⟨hS, ?_⟩
  refine wpAnyH_taked (i := 16) (some 77) rfl (by kernel_rfl) (by kernel_rfl) (by kernel_rfl) (by kernel_rfl) (fun _ _ _ h => h) (yields_val (by kernel_rfl) (.bool true) (fun w => by kernel_rfl)) hS ?_
  refine wpAnyH_taked (i := 17) (some 78) rfl (by kernel_rfl) (by kernel_rfl) (by kernel_rfl) (by kernel_rfl) (fun _ _ _ h => h) (yields_val (by kernel_rfl) (.bool true) (fun w => by kernel_rfl)) hS ?_
  refine wpAnyH_taked (i := 18) (some 79) rfl (by kernel_rfl) (by kernel_rfl) (by kernel_rfl) (by kernel_rfl) (fun _ _ _ h => h) (yields_val (by kernel_rfl) (.pointer (some ⟨Gg, 16, none⟩)) (fun w => by kernel_rfl)) hS ?_
  refine wpAnyH_taked (i := 19) (some 80) rfl (by kernel_rfl) (by kernel_rfl) (by kernel_rfl) (by kernel_rfl) (fun _ _ _ h => h) (yields_val (by kernel_rfl) (.pointer (some ⟨Gg, 32, none⟩)) (fun w => by kernel_rfl)) hS ?_
  refine wpAnyH_taked (i := 20) (some 81) rfl (by kernel_rfl) (by kernel_rfl) (by kernel_rfl) (by kernel_rfl) (fun _ _ _ h => h) (yields_val (by kernel_rfl) (.slice (some ⟨Gg, 32, none⟩) 16 16) (fun w => by kernel_rfl)) hS ?_
  refine wpAnyH_taked (i := 21) (some 82) rfl (by kernel_rfl) (by kernel_rfl) (by kernel_rfl) (by kernel_rfl) (fun _ _ _ h => h) (yields_load (by kernel_rfl) 53 _ rfl N 0 16 5 K (by kernel_rfl) (fun w9 h9 => (HKk.out w9 h9).rd0) HK.out (by kernel_rfl) (by kernel_rfl)) hS ?_
  refine wpAnyH_taked (i := 22) (some 83) rfl (by kernel_rfl) (by kernel_rfl) (by kernel_rfl) (by kernel_rfl) (fun _ _ _ h => h) (yields_val (by kernel_rfl) (.string c1) (fun w => by kernel_rfl)) hS ?_
  refine wpAnyH_one 23 (by kernel_rfl) ?_
  refine wpOp_enterEd (some 84) rfl (by kernel_rfl) (by kernel_rfl) 42 #[.agg (Bs K), .int .i64 1, .string c1] (fun v w9 => SlB w9 v T1 ∧ Below v5b.heap.size v5b w9) (by kernel_rfl) (HT1.out v5b) ?_
  rintro vt1 v6 ⟨hD, hL⟩
  have hS : Below M w3 v6 := below_more hS hL (by have := hS.size; omega)
  refine ⟨hS, ?_⟩
  refine wpAnyH_one 24 (by kernel_rfl) ?_
  refine wpOp_enterEd (some 85) rfl (by kernel_rfl) (by kernel_rfl) 21 #[.slice (some ⟨Gg, 32, none⟩) 16 16, vt1] (fun v w9 => v = .bool true ∧ Below v6.heap.size v6 w9) (by kernel_rfl) ((Same_any _ _ T1 T1 v6 (VB.rdS (cs := []) ((HGk.out v6 hS).tag1 HK.out H0.out) H1.out) hD (by rw [H1.out]; decide)).mono fun e w9 ⟨q1, q2⟩ => ⟨_, q1, by rw [beq_self_eq_true], q2.below0⟩) ?_
  rintro v9 v6b ⟨rfl, hL⟩
  have hS : Below M w3 v6b := below_more hS hL (by have := hS.size; omega)
  refine ⟨hS, ?_⟩
  refine wpAnyH_taked (i := 25) (some 86) rfl (by kernel_rfl) (by kernel_rfl) (by kernel_rfl) (by kernel_rfl) (fun _ _ _ h => h) (yields_val (by kernel_rfl) (.bool true) (fun w => by kernel_rfl)) hS ?_
  refine wpAnyH_taked (i := 26) (some 87) rfl (by kernel_rfl) (by kernel_rfl) (by kernel_rfl) (by kernel_rfl) (fun _ _ _ h => h) (yields_val (by kernel_rfl) (.bool true) (fun w => by kernel_rfl)) hS ?_
  refine wpAnyH_taked (i := 27) (some 88) rfl (by kernel_rfl) (by kernel_rfl) (by kernel_rfl) (by kernel_rfl) (fun _ _ _ h => h) (yields_val (by kernel_rfl) (.pointer (some ⟨Gg, 48, none⟩)) (fun w => by kernel_rfl)) hS ?_
  refine wpAnyH_taked (i := 28) (some 89) rfl (by kernel_rfl) (by kernel_rfl) (by kernel_rfl) (by kernel_rfl) (fun _ _ _ h => h) (yields_vb (by kernel_rfl) 71 _ rfl Gg 48 gdt 2 (.array 2 4) (gcs K T0 T1 false false 0 0) [.bool false, .bool false] (by kernel_rfl) (fun w9 h9 => (HGk.out w9 h9).vb) (gcs_mid _ _ _ _ _ _ _ HK.out H0.out H1.out) rfl (by kernel_rfl) rfl (by kernel_rfl)) hS ?_
  refine wpAnyH_taked (i := 29) (some 90) rfl (by kernel_rfl) (by kernel_rfl) (by kernel_rfl) (by kernel_rfl) (fun _ _ _ h => h) (yields_val (by kernel_rfl) (.agg #[.bool false, .bool false]) (fun w => by kernel_rfl)) hS ?_
  refine wpAnyH_taked (i := 30) (some 91) rfl (by kernel_rfl) (by kernel_rfl) (by kernel_rfl) (by kernel_rfl) (fun _ _ _ h => h) (yields_eql (by kernel_rfl) 71 _ _ _ rfl #[.bool false, .bool false] #[.bool false, .bool false] (by kernel_rfl) (by kernel_rfl) (by kernel_rfl) true hqb) hS ?_
  refine wpAnyH_taked (i := 31) (some 92) rfl (by kernel_rfl) (by kernel_rfl) (by kernel_rfl) (by kernel_rfl) (fun _ _ _ h => h) (yields_val (by kernel_rfl) (.bool true) (fun w => by kernel_rfl)) hS ?_
  refine wpAnyH_taked (i := 32) (some 93) rfl (by kernel_rfl) (by kernel_rfl) (by kernel_rfl) (by kernel_rfl) (fun _ _ _ h => h) (yields_val (by kernel_rfl) (.bool true) (fun w => by kernel_rfl)) hS ?_
  refine wpAnyH_taked (i := 33) (some 94) rfl (by kernel_rfl) (by kernel_rfl) (by kernel_rfl) (by kernel_rfl) (fun _ _ _ h => h) (yields_val (by kernel_rfl) (.pointer (some ⟨Gg, 50, none⟩)) (fun w => by kernel_rfl)) hS ?_
  refine wpAnyH_taked (i := 34) (some 95) rfl (by kernel_rfl) (by kernel_rfl) (by kernel_rfl) (by kernel_rfl) (fun _ _ _ h => h) (yields_vb (by kernel_rfl) 72 _ rfl Gg 50 gdt 2 (.array 2 3) (gcs K T0 T1 false false 0 0) [.int .i64 0, .int .i64 0] (by kernel_rfl) (fun w9 h9 => (HGk.out w9 h9).vb) (gcs_mid2 _ _ _ _ _ _ _ HK.out H0.out H1.out) rfl (by kernel_rfl) rfl (by kernel_rfl)) hS ?_
  refine wpAnyH_taked (i := 35) (some 96) rfl (by kernel_rfl) (by kernel_rfl) (by kernel_rfl) (by kernel_rfl) (fun _ _ _ h => h) (yields_val (by kernel_rfl) (.agg #[.int .i64 0, .int .i64 0]) (fun w => by kernel_rfl)) hS ?_
  refine wpAnyH_taked (i := 36) (some 97) rfl (by kernel_rfl) (by kernel_rfl) (by kernel_rfl) (by kernel_rfl) (fun _ _ _ h => h) (yields_eql (by kernel_rfl) 72 _ _ _ rfl #[.int .i64 0, .int .i64 0] #[.int .i64 0, .int .i64 0] (by kernel_rfl) (by kernel_rfl) (by kernel_rfl) true hqi) hS ?_
  refine wpAnyH_taked (i := 37) (some 98) rfl (by kernel_rfl) (by kernel_rfl) (by kernel_rfl) (by kernel_rfl) (fun _ _ _ h => h) (yields_val (by kernel_rfl) (.bool true) (fun w => by kernel_rfl)) hS ?_
  refine wpAnyH_taked (i := 38) (some 6) rfl (by kernel_rfl) (by kernel_rfl) (by kernel_rfl) (by kernel_rfl) (fun _ _ _ h => h) (yields_val (by kernel_rfl) (.bool true) (fun w => by kernel_rfl)) hS ?_
  refine wpAnyH_done (by kernel_rfl) ?_ _
  simp only [Act.put, List.getElem_toArray, List.getElem_cons_succ, List.getElem_cons_zero, List.setIfInBounds_toArray, List.set_cons_succ, List.set_cons_zero]
  go_wp2
  go_ret
  exact ⟨rfl, by rw [HN.out]; exact below_more hM3 hS (by omega)⟩
theorem GuardNews_any (K : List UInt8) (c0 c1 : ByteArray) (w : World) (hE : Et w) (hk : K.length = 16) (hcs0 : c0.size ≤ 9223372036854775807) (hcs1 : c1.size ≤ 9223372036854775807) : Calls Tryz.prog 8 #[.agg (Bs K), .string c0, .string c1] w fun e w' => e = .returned (.bool true) ∧ Below w.heap.size w w' := by
  by_cases h0 : c0.size ≤ 100
  · by_cases h1 : c1.size ≤ 100
    · by_cases b0 : c0.size < 4 ∨ 16 < c0.size
      · exact GN_b0 K c0 c1 w hE hk h0 h1 b0
      · by_cases b1 : c1.size < 4 ∨ 16 < c1.size
        · exact GN_b1 K c0 c1 w hE hk h0 h1 (by omega) (by omega) b1
        · exact GN_ok K c0 c1 w hE hk (by omega) (by omega) (by omega) (by omega)
    · exact GN_f1 K c0 c1 w hE hk h0 h1
  · exact GN_f0 K c0 c1 w hE hk h0
end Go.Proofs.YtidgmokbkepcdaaGreatDoor
set_option linter.unusedVariables false
set_option linter.unusedSimpArgs false
namespace Lk
open Go Go.RowKit
/-- a slice of whole numbers as it is read -/
def IsRow (k : IntKind) (w : World) (a : Option Addr) (len cap : Nat) (zs : List Int) : Prop :=
  (a = none ∧ len = 0 ∧ cap = 0 ∧ zs = []) ∨
  ∃ x, a = some x ∧ len ≤ cap ∧ cap ≤ maxLen ∧ zs.length = cap ∧ (∀ i, i < zs.length → w.cell? (x.add i) = some (.int k (zs.getD i 0))) ∧ ∀ n ∈ zs, (Lit.int k n).wf = true
theorem u8_of_wf {n : Int} (h : (Lit.int .u8 n).wf = true) : n = bv (UInt8.ofNat n.toNat) := by
  obtain ⟨a, rfl⟩ := open_u8 h
  unfold bv
  simp
theorem slB_of_row {w : World} {a : Option Addr} {len cap : Nat} {zs : List Int} (h : IsRow .u8 w a len cap zs) : ∃ l : List UInt8, l.length = len ∧ SlB w (.slice a len cap) l := by
  rcases h with ⟨rfl, rfl, rfl, rfl⟩ | ⟨x, rfl, h1, h2, h3, h4, h5⟩
  · exact ⟨[], rfl, none, 0, rfl, fun _ => rfl, Nat.le_refl _, Nat.zero_le _, fun h => by omega⟩
  · have hl : ((zs.take len).map fun z => UInt8.ofNat z.toNat).length = len := by simp; omega
    refine ⟨(zs.take len).map fun z => UInt8.ofNat z.toNat, hl, some x, cap, by rw [hl], fun h => (by cases h), by rw [hl]; exact h1, h2, fun hc => ?_⟩
    have hx : x.spot = none := by
      have := h4 0 (by omega)
      have e : x.add 0 = x := by simp [Addr.add]
      rw [e] at this
      unfold World.cell? at this
      split at this
      · split at this
        · cases this
        · rename_i hs; simpa using hs
      · cases this
    obtain ⟨g, o, s⟩ := x
    cases hx
    refine ⟨g, o, rfl, fun k hk => ?_⟩
    rw [hl] at hk
    have hc := h4 k (by omega)
    have ea : (⟨g, o, none⟩ : Addr).add k = ⟨g, o + k, none⟩ := by unfold Addr.add; split <;> simp_all
    rw [ea] at hc
    rw [hc]
    have hm : zs.getD k 0 ∈ zs := by
      have : k < zs.length := by omega
      simp [this]
    have := u8_of_wf (h5 _ hm)
    have e : g8 ((zs.take len).map fun z => UInt8.ofNat z.toNat) k = UInt8.ofNat (zs.getD k 0).toNat := by
      unfold g8
      have : k < zs.length := by omega
      simp [List.getElem?_take, hk, this]
    rw [e, ← this]
section
variable {P : Program} {H : Type} {enc : TypeId × Value → H}
theorem open_slice_u8 {t e : TypeId} {W : World} {a : Option Addr} {len cap : Nat} {d : DataW H} {ps : List MemPlace} (ht : P.underlying t = some (.slice e)) (he : P.underlying e = some (.int .u8)) (hc : P.cellsOf e = 1)
    (h : DataW.Trod enc P W 0 (fun _ => true) true t (.slice a len cap) d ps) : ∃ l : List UInt8, l.length = len ∧ SlB W (.slice a len cap) l := by
  obtain ⟨zs, hz⟩ : ∃ zs, IsRow .u8 W a len cap zs := by
    obtain ⟨fuel, hf⟩ := h
    rcases Go.ChangeShapes.open_ints ht he hc hf with ⟨hcs, _⟩ | ⟨x, l, c, zs, hcs, _, hl, hm, hz, _, hcell, hwz⟩
    · simp [Value.cells] at hcs
      obtain ⟨rfl, rfl, rfl⟩ := hcs
      exact ⟨[], .inl ⟨rfl, rfl, rfl, rfl⟩⟩
    · simp [Value.cells] at hcs
      obtain ⟨rfl, rfl, rfl⟩ := hcs
      exact ⟨zs, .inr ⟨_, rfl, hl, hm, by simpa using hz, hcell, hwz⟩⟩
  exact slB_of_row hz
/-- an array of bytes -/
theorem open_arr_u8 {t e n : Nat} {W : World} {r : Reach} {base : Nat} {v : Value} (ht : P.underlying t = some (.array n e)) (he : P.underlying e = some (.int .u8)) (hc : P.cellsOf t = n) (hct : P.cellTypes P.depth t = some (List.replicate n e)) (hn : 0 < n)
    (h : Value.okWide P W r base t v) : ∃ l : List UInt8, l.length = n ∧ v = .agg (Bs l) := by
  simp only [Value.okWide, ht] at h
  obtain ⟨cs, rfl, hsz, ts, hts, _, hcell⟩ := h
  rw [hct] at hts
  cases hts
  rw [hc] at hsz
  refine ⟨cs.toList.map fun v => match v with | .int _ z => UInt8.ofNat z.toNat | _ => 0, by simp [hsz], ?_⟩
  congr 1
  apply Array.ext
  · simp [Bs]
  · intro i h1 h2
    obtain ⟨u, hu, hok⟩ := hcell i cs[i] (by simp [h1])
    have hue : u = e := by
      rw [List.getElem?_replicate] at hu
      split at hu
      · cases hu; rfl
      · cases hu
    subst hue
    simp only [Cell.okWide, he] at hok
    simp only [Bs, List.map_map, List.getElem_toArray, List.getElem_map, Function.comp_apply, Array.getElem_toList]
    cases hv : cs[i] with
    | int k z =>
      rw [hv] at hok
      simp only [Cell.ok, he] at hok
      obtain ⟨rfl, hw⟩ := hok
      have hw' : (Lit.int .u8 z).wf = true := by
        unfold Lit.wf
        rw [Bool.and_eq_true]
        exact ⟨decide_eq_true hw.1, decide_eq_true hw.2⟩
      simp only [← u8_of_wf hw']
    | _ => rw [hv] at hok; simp [Cell.ok, he] at hok
end
end Lk
set_option linter.unusedVariables false
namespace Go.Proofs.YtidgmokbkepcdaaGreatDoor
open Go.ChangeShapes Go.WideShapes Go.RowKit
theorem ownKnobNone : ownKnob Tryz.prog.godebug = none := by kernel_rfl
theorem laidOutAll : laidOutB Tryz.prog = true := by kernel_rfl
theorem fct_laid : laidOutB Tryz.checked.prog = true := by kernel_rfl
theorem fct_maps : mapsRowed Tryz.checked.prog = true := by kernel_rfl
theorem fct_main : Tryz.pinned.checked.prog.mainIs = some (true, "5c7ead978bf2a56e6a46a70a7337108a1831cbd0c46db623aa94d95120778170".toList) := by kernel_rfl
theorem fct_looks : true = Tryz.pinned.checked.prog.looks [] := by kernel_rfl
def laidList : List (String × DataW Unit) := [("errors.errorType", Rows.laid_errors_errorType)]
theorem et_g : Tryz.prog.globalNamed "errors.errorType" = some 0 := by kernel_rfl
theorem et_rt : (Tryz.prog.cutTypes.find? (·.1 == "internal/reflectlite.rtype")).map (·.2) = some 156 := by kernel_rfl
theorem et_row : ((List.range 240).filter fun t => Tryz.prog.rowNamed t [101, 114, 114, 111, 114]) = [29] := by kernel_rfl
theorem et_size : Tryz.prog.types.size = 240 := by kernel_rfl
theorem handle_of_laid {W : World} (h : laidMetH Tryz.prog laidList W) : Et W := by
  have h' : laidMet Tryz.prog [] W ∧ handlesMet Tryz.prog laidList W := h
  obtain ⟨name, u, ty, e1, e2, e3, e4, e5⟩ := h'.2 _ (List.mem_singleton.2 rfl)
  have en : name = [101, 114, 114, 111, 114] := (Option.some.inj e1).symm
  subst en
  obtain rfl := Option.some.inj (et_rt.symm.trans e2)
  have hm : ty ∈ (List.range 240).filter fun t => Tryz.prog.rowNamed t [101, 114, 114, 111, 114] := List.mem_filter.2 ⟨List.mem_range.2 (by rw [← et_size]; exact e3), e4⟩
  rw [et_row] at hm
  obtain rfl := List.mem_singleton.1 hm
  have hh : typeHandle Tryz.prog 29 = .pointer (some ⟨1, 29, none⟩) := by kernel_rfl
  rw [hh] at e5
  have := World.var?_cell et_g e5 0
  unfold Et hnd
  simpa using this
noncomputable def laidWorld (os : Os) : World :=
  let w0 := World.holding Tryz.prog os ⟨#[], #[], []⟩
  { w0 with heap := w0.heap.modify 0 fun
      | .cells _ t frozen => .cells #[.iface 156 (.agg #[.pointer (some ⟨1, 29, none⟩)])] t frozen
      | o => o }
theorem laidWorld_met (os : Os) (args : Array Value) : laidMetH Tryz.prog laidList ((laidWorld os).forCall (fun _ _ => 0) ⟨#[], args, []⟩).memory :=
  laidMetH_of_parts (laidMet_nil _ _) (by kernel_rfl)
end Go.Proofs.YtidgmokbkepcdaaGreatDoor
namespace Go.Proofs.YtidgmokbkepcdaaGreatDoor.guardNews
open Go.ChangeShapes Go.WideShapes Go.ChangeAt Go.RowKit Lk
open Go.ChangeMaps (open_string shut_string)
set_option linter.unusedVariables false
set_option linter.unusedSimpArgs false
set_option maxRecDepth 100000 in
theorem lifted (os : Os) (started : os.Started) (H : Type) (enc : TypeId × Value → H) :
    ReturnsInHanded {} Tryz.checked os 8 .any (fun w args => (Rows.guardNewsSpec.pre enc Tryz.prog Tryz.f8 [] false w args ∧ laidMetH Tryz.prog laidList w) ∧ sizedMet enc Tryz.prog Tryz.f8 (OpenSpec.ofChange Rows.guardNewsSpec) false w args)
      (Rows.guardNewsSpec.post enc Tryz.prog Tryz.f8 false true false false) := by
  refine returnsInHanded_of_change_and (C := Tryz.checked) (X := fun w _ => laidMetH Tryz.prog laidList w) (fun _ _ _ hh h => h.of_heap hh) ownKnobNone started (by kernel_rfl) Tryz.func8
    (ChangeSpec.witness_at (enc := enc) (C := Tryz.checked) (os := os) (X := fun w _ => laidMetH Tryz.prog laidList w) false (laidWorld os) #[.agg #[.int .u8 0, .int .u8 0, .int .u8 0, .int .u8 0, .int .u8 0, .int .u8 0, .int .u8 0, .int .u8 0, .int .u8 0, .int .u8 0, .int .u8 0, .int .u8 0, .int .u8 0, .int .u8 0, .int .u8 0, .int .u8 0], .string ByteArray.empty, .string ByteArray.empty] 8 rfl (by kernel_rfl) (by kernel_rfl) (by kernel_rfl) (by kernel_rfl) (by kernel_rfl) (laidWorld_met os _)) ?_
  intro W base args ds gs before hval0 hW _ _ hLd _
  have hval : ∀ (j : Nat) t v, Tryz.f8.params[j]? = some t → args[j]? = some v → Value.okWide Tryz.prog W .any base t v := hval0
  have hW' := hW
  obtain ⟨p, q, hA0, hV, rfl, hfz, hnd⟩ := hW
  have hA : DataW.TrodAll enc Tryz.prog W 0 (fun _ => true) true Tryz.f8.params.toList args.toList ds p := hA0
  have hEt : Et W := handle_of_laid hLd
  rw [Tryz.params8] at hA hval
  obtain ⟨v0, vs0, d0, ds0, p0, q0, hargs, rfl, rfl, h0, r0⟩ := trodAll_cons hA
  obtain ⟨v1, vs1, d1, ds1, p1, q1, rfl, rfl, rfl, h1, r1⟩ := trodAll_cons r0
  obtain ⟨v2, vs2, d2, ds2, p2, q2, rfl, rfl, rfl, h2, r2⟩ := trodAll_cons r1
  obtain ⟨rfl, rfl, rfl⟩ := trodAll_nil r2
  obtain rfl : args = #[v0, v1, v2] := by cases args; simp_all
  obtain ⟨rfl, rfl⟩ := trodVars_none hV
  have k0 := h0
  have lt0 : ∀ x ∈ p0, x.block < W.heap.size := by obtain ⟨m, hm⟩ := k0; exact DataW.trod_lt m _ _ _ hm
  obtain ⟨l0, hl0, rfl⟩ := open_arr_u8 Tryz.underlying53 Tryz.underlying5 (by kernel_rfl) (by kernel_rfl) (by decide) (hval 0 53 v0 rfl rfl)
  have k1 := h1
  have lt1 : ∀ x ∈ p1, x.block < W.heap.size := by obtain ⟨m, hm⟩ := k1; exact DataW.trod_lt m _ _ _ hm
  obtain ⟨a1, rfl, rfl, rfl, w1⟩ := open_string Tryz.underlying9 (hval 1 9 v1 rfl rfl) h1
  have k2 := h2
  have lt2 : ∀ x ∈ p2, x.block < W.heap.size := by obtain ⟨m, hm⟩ := k2; exact DataW.trod_lt m _ _ _ hm
  obtain ⟨a2, rfl, rfl, rfl, w2⟩ := open_string Tryz.underlying9 (hval 2 9 v2 rfl rfl) h2
  clear hA0 hval0
  refine (GuardNews_any l0 a1 a2 W hEt hl0 w1 w2).mono fun e W' ⟨he, bel⟩ => ?_
  subst he
  exact ⟨_, rfl, _, _, _, [], _, [], hW', trodAll_mk1 (shut_bool Tryz.underlying4 _), (trodAll_cons_mk (Below.trod laidOutAll (by kernel_rfl) (of_decide_eq_true (by kernel_rfl)) k0 bel lt0) (trodAll_cons_mk (Below.trod laidOutAll (by kernel_rfl) (of_decide_eq_true (by kernel_rfl)) k1 bel lt1) (trodAll_cons_mk (Below.trod laidOutAll (by kernel_rfl) (of_decide_eq_true (by kernel_rfl)) k2 bel lt2) trodAll_mk0))), rfl, bel.frame _, fun h => by cases h⟩
set_option maxHeartbeats 8000000 in
theorem closed : joinedFacts Tryz.checked.prog 8 Tryz.f8 Rows.guardNewsSpec Rows.guardNewsRow = true := by
  unfold joinedFacts
  simp only [Bool.and_eq_true]
  repeat' apply And.intro
  all_goals first | with_reducible exact fct_laid | with_reducible exact fct_maps | as_aux_lemma => kernel_rfl
theorem named_f : Tryz.prog.funcNamed "lockbox/lockboxlaw24.GuardNews" = some 8 := by kernel_rfl
theorem over : Rows.GuardNewsSaid :=
  OpenClaim.holds_of_wide 8 Tryz.f8 rfl rfl rfl rfl rfl rfl rfl ⟨rfl, rfl, rfl, rfl, rfl⟩ rfl rfl rfl rfl rfl named_f Tryz.func8 closed
    (of_decide_eq_true (by kernel_rfl)) (by unfold Func.isWrapper; first | (rw [if_pos (by decide +kernel)]; kernel_rfl) | (rw [if_neg (by decide +kernel)]; exact ⟨rfl, rfl⟩))
    (fun os started H enc _ => lifted os started H enc)
theorem params_ok (j : Nat) (t : TypeId) (ht : Tryz.f8.params[j]? = some t) : Tryz.prog.wantsStandIn t = false := by
  rw [Tryz.params8] at ht
  have hm : t ∈ #[53, 9, 9] := Array.mem_of_getElem? ht
  simp only [List.mem_toArray, List.mem_cons, List.not_mem_nil, or_false] at hm
  rcases hm with rfl | rfl | rfl
  · show Tryz.prog.wantsStandIn 53 = false
    kernel_rfl
  · show Tryz.prog.wantsStandIn 9 = false
    kernel_rfl
  · show Tryz.prog.wantsStandIn 9 = false
    kernel_rfl
theorem wf_text : Rows.guardNewsRow.wfByText (OpenSpec.ofChange Rows.guardNewsSpec) = true := by kernel_rfl
theorem goes_no : false = Rows.guardNewsRow.goesBy Tryz.pinned.checked.prog := by kernel_rfl
theorem card_holds : Rows.GuardNewsCardSaid :=
  Claim7.holds_tied_plain_at .later [] [.handle] true (true, "5c7ead978bf2a56e6a46a70a7337108a1831cbd0c46db623aa94d95120778170") true
    over (fun _ h => by cases h) wf_text (fun _ h => by cases h) guardNews_row_tie rfl ⟨rfl, rfl⟩ fct_main rfl
    (fun f fn hf hfn => by
      obtain rfl : f = 8 := Option.some.inj (named_f.symm.trans hf) |>.symm
      obtain rfl : fn = Tryz.f8 := (Option.some.inj (Tryz.func8.symm.trans hfn)).symm
      exact ⟨fct_looks, fun j t ht => params_ok j t ht⟩)
    goes_no
#print axioms card_holds
end Go.Proofs.YtidgmokbkepcdaaGreatDoor.guardNews
namespace Go.Proofs.YtidgmokbkepcdaaGreatDoor
/-- The card, under a short name, for the claim. -/
theorem guardNews_holds : Rows.GuardNewsCardSaid := guardNews.card_holds
end Go.Proofs.YtidgmokbkepcdaaGreatDoor
