/- ArqcKeeps: what is handed in stays; what is answered is new memory. -/
import Derived.Test.YtjbdhnmkeaogcaaArqU
import Derived.Test.YtjbdhnmkeaogcaaSto
set_option linter.unusedVariables false
set_option linter.unusedSimpArgs false
namespace Go.Proofs.Ytjbdhnmkeaogcaa
open Go.RowKit Lk
set_option maxHeartbeats 6400000 in
set_option maxRecDepth 100000 in
theorem ArqcKeeps_any (k : List UInt8) (vd : Value) (data code : List UInt8) (w : World) (hk : k.length = 16) (hd : SlB w vd data) (hc : code.length = 8) :
    Calls Try.prog 9 #[.agg (Bs k), vd, .agg (Bs code)] w fun e w' => e = .returned (.bool true) ∧ Below w.heap.size w w' := by
  obtain ⟨N, hN⟩ : ∃ N, w.heap.size = N := ⟨_, rfl⟩
  have HN := Lib.hid hN
  have HK := Lib.hid hk
  have HC := Lib.hid hc
  have HD := Lib.hid hd
  obtain ⟨L, eL⟩ : ∃ L, data.length = L := ⟨_, rfl⟩
  obtain ⟨Ad, cd, rfl⟩ := hd.form eL
  have EL := Lib.hid eL
  have hq8 := fun w => run_eql_bs (P := Try.prog) w (t := 23) (e := 5) code code (by kernel_rfl) (by kernel_rfl) (by kernel_rfl) (by kernel_rfl) hc hc
  simp only [beq_self_eq_true] at hq8
  clear hk hd hc eL
  by_cases hl : L ≤ 8
  rotate_left
  · go_enter Try.func9, Try.ntmps9
    go_wp2_with (first
      | ((with_reducible show wpList _ _ _ _ _ w); refine box_blk (w := w) rfl 40 _ rfl k rfl ?_; intro u0 hBk hG0 hz0; rw [hN] at hBk hz0 ⊢)
      | ((with_reducible show wpList _ _ _ _ _ u0); refine box_blk (w := u0) rfl 23 _ rfl code rfl ?_; intro u1 hBc hG1 hz1))
    have hL0 : Below N w u1 := below_none (below_none (Below.refl _ _) (by omega) hG0) (by omega) hG1
    have hs0 : N ≤ u1.heap.size := by omega
    refine (awake19 u1).mono ?_
    rintro e w1 ⟨rfl, hL1⟩
    have hM1 := below_more hL0 hL1 hs0
    have hs1 : N ≤ w1.heap.size := Nat.le_trans hs0 hL1.size
    clear hBk hG0 hG1 hz0 hz1 hBc hL0 hs0 hL1
    go_wp2_with fail
    refine (awake19 w1).mono ?_
    rintro e w2 ⟨rfl, hL2⟩
    have hM2 := below_more hM1 hL2 hs1
    go_wp2_with fail
    go_ret
    exact ⟨rfl, by rw [HN.out]; exact hM2⟩
  go_enter Try.func9, Try.ntmps9
  have hM0 : Below N w w := Below.refl _ _
  have hs0 : N ≤ w.heap.size := by omega
  go_wp2_with (first
    | ((with_reducible show wpList _ _ _ _ _ w); refine box_blk (w := w) rfl 40 _ rfl k rfl ?_; intro u0 hBk hG0 hz0; rw [hN] at hBk hz0 ⊢)
    | ((with_reducible show wpList _ _ _ _ _ u0); refine box_blk (w := u0) rfl 23 _ rfl code rfl ?_; intro u1 hBc hG1 hz1; rw [hz0] at hBc hz1 ⊢))
  have hL : Below w.heap.size w u1 := below_none (below_none (Below.refl _ _) (Nat.le_refl _) hG0) (by omega) hG1
  have zk := hBk.old hG1 (by simp)
  have hM1 : Below N w u1 := below_more hM0 hL hs0
  have hs1 : N ≤ u1.heap.size := Nat.le_trans hs0 (hL).size
  clear hM0 hs0
  have Bk_1 := Lib.hid (zk)
  have Bc_1 := Lib.hid (hBc)
  have hLd := hL
  rw [hN] at hLd
  have D_1 := Lib.hid (HD.out.below hL)
  clear hL hLd zk hBk hBc hG0 hG1 hz0 hz1
  refine (awake19 u1).mono ?_
  rintro e w2 ⟨rfl, hL⟩
  have hM2 : Below N w w2 := below_more hM1 hL hs1
  have hs2 : N ≤ w2.heap.size := Nat.le_trans hs1 (hL).size
  have Bk_2 := Lib.hid (Bk_1.out.under hL)
  clear Bk_1
  have Bc_2 := Lib.hid (Bc_1.out.under hL)
  clear Bc_1
  have D_2 := Lib.hid (D_1.out.below hL)
  clear D_1
  clear hM1 hs1
  clear hL
  go_wp2_with (first | (at_builtin; (with_reducible show wpList _ _ _ _ _ (World.alloc w2 _)); (refine append_b hu_sl hu_u8 rfl _ _ rfl w2.heap.size _ [] (by rfl) (own_lit0 w2 _ (Nat.le_refl _)) _ data (by rfl) (D_2.out.alloc _) (by rw [EL.out]; simp; omega) (by simp) ?_); intro vWas w3 hOWas hGWas; have hL : Below w2.heap.size w2 w3 := below_new ((Below.refl _ _).alloc (Nat.le_refl _) _) (by simp) hGWas (Nat.le_refl _); have hO2 : Own w3 w2.heap.size vWas data := hOWas; clear hGWas hOWas; have hM3 : Below N w w3 := below_more hM2 hL hs2; have hs3 : N ≤ w3.heap.size := Nat.le_trans hs2 (hL).size; have Bk_3 := Lib.hid (Bk_2.out.under hL); clear Bk_2; have Bc_3 := Lib.hid (Bc_2.out.under hL); clear Bc_2; have D_3 := Lib.hid (D_2.out.below hL); clear D_2; clear hM2 hs2; have Was_3 := Lib.hid (hO2); clear hL hO2; obtain ⟨AWas, cWas, rfl, hcWas⟩ := Was_3.out.slB.formc EL.out) | ((with_reducible show wpList _ _ _ _ _ w3); refine load_blk (w := w3) rfl 23 _ rfl (N + 1) 23 8 5 code (by rfl) Bc_3.out HC.out (by kernel_rfl) (by kernel_rfl) ?_) | ((with_reducible show wpList _ _ _ _ _ w3); refine alloc_row (w := w3) rfl 23 rfl (.agg (Bs (List.replicate 8 0))) 8 (fun _ => by kernel_rfl) rfl ?_; intro u5 hR5 _ hG5 hz5) | ((with_reducible show wpList _ _ _ _ _ u5); refine store_blk (w := u5) rfl 23 _ _ rfl w3.heap.size 23 8 code (by rfl) (by rfl) hR5 HC.out (by kernel_rfl) ?_; intro w4 hB6 hG6 hz6; have hL : Below w3.heap.size w3 w4 := below_new (below_none (Below.refl _ _) (Nat.le_refl _) hG5) (by omega) hG6 (Nat.le_refl _); obtain ⟨gf, egf⟩ : ∃ g, w3.heap.size = g := ⟨_, rfl⟩; have hB7 := hB6; rw [egf] at hB7 ⊢; clear hR5 hG5 hz5 hB6 hG6 hz6 egf; have hM4 : Below N w w4 := below_more hM3 hL hs3; have hs4 : N ≤ w4.heap.size := Nat.le_trans hs3 (hL).size; have Bk_4 := Lib.hid (Bk_3.out.under hL); clear Bk_3; have Bc_4 := Lib.hid (Bc_3.out.under hL); clear Bc_3; have D_4 := Lib.hid (D_3.out.below hL); clear D_3; have Was_4 := Lib.hid (Was_3.out.under hL); clear Was_3; clear hM3 hs3; have Fr_4 := Lib.hid (hB7); clear hL hB7))
  obtain ⟨B0, eB0⟩ : ∃ B, w4.heap.size = B := ⟨_, rfl⟩
  have HDx := Lib.hid D_4.out
  have HWx := Lib.hid Was_4.out.slB
  have HCx := Lib.hid Bc_4.out
  have HFx := Lib.hid Fr_4.out
  have HMx := Lib.hid hM4
  have HSx := Lib.hid hs4
  have HB0 := Lib.hid eB0
  clear eB0
  have MX_4 := Lib.hid (Below.refl w4.heap.size w4)
  refine (Make_any _ _ k data w4 (Bk_4.out.slB HK.out (by decide)) HK.out D_4.out (by rw [EL.out]; omega)).mono ?_
  rintro e w5 ⟨v, rfl, hO, hL⟩
  obtain ⟨la, ela⟩ : ∃ l, pretail k data = l := ⟨_, rfl⟩
  have hlal : la.length = 8 := by rw [← ela]; exact pretail_len _ _
  have HLA := Lib.hid hlal
  rw [ela] at hO
  obtain ⟨ga, ca, ega, hga, hga2, _, _, _⟩ := hO.form (by rw [hlal]; decide)
  rw [hlal] at ega
  subst ega
  clear ela hlal
  have hM5 : Below N w w5 := below_more hM4 hL hs4
  have hs5 : N ≤ w5.heap.size := Nat.le_trans hs4 (hL).size
  have Bk_5 := Lib.hid (Bk_4.out.under hL)
  clear Bk_4
  have Bc_5 := Lib.hid (Bc_4.out.under hL)
  clear Bc_4
  have D_5 := Lib.hid (D_4.out.below hL)
  clear D_4
  have Was_5 := Lib.hid (Was_4.out.under hL)
  clear Was_4
  have Fr_5 := Lib.hid (Fr_4.out.under hL)
  clear Fr_4
  have MX_5 := Lib.hid (below_more MX_4.out hL MX_4.out.size)
  clear MX_4
  clear hM4 hs4
  have A_5 := Lib.hid (hO)
  clear hO hL
  have MA_5 := Lib.hid (Below.refl w5.heap.size w5)
  go_wp2_with fail
  go_region_held3 (fun _ => True) (trivial) ((go_at_call 26; refine (One_arr #[.int .u8 1, .int .u8 2] _ _ k code [1, 2] (by rfl) _ ((Bk_5.out.slB HK.out (by decide)).drewN 1) HK.out ((Bc_5.out.slB HC.out (by decide)).drewN 1) HC.out rfl).mono ?_; rintro e w6 ⟨v, rfl, hO, hLx⟩))
  have hL : Below w5.heap.size w5 w6 := below_more (Drawn.below0 ⟨1, rfl⟩) hLx (Nat.le_refl _)
  have hlbl : (pone k code [1, 2]).length = 8 := ptriple_len _ _ _
  obtain ⟨lb, elb⟩ : ∃ l, pone k code [1, 2] = l := ⟨_, rfl⟩
  rw [elb] at hlbl hO
  obtain ⟨gb, Tb, _, egb, hgb, hBb⟩ := hO
  rw [hlbl] at egb
  subst egb
  have HLB := Lib.hid hlbl
  have hgb1 : w5.heap.size ≤ gb := hgb
  have hab : ga < gb := by have := MA_5.out.size; omega
  have hM6 : Below N w w6 := below_more hM5 hL hs5
  have hs6 : N ≤ w6.heap.size := Nat.le_trans hs5 (hL).size
  have Bk_6 := Lib.hid (Bk_5.out.under hL)
  clear Bk_5
  have Bc_6 := Lib.hid (Bc_5.out.under hL)
  clear Bc_5
  have D_6 := Lib.hid (D_5.out.below hL)
  clear D_5
  have Was_6 := Lib.hid (Was_5.out.under hL)
  clear Was_5
  have Fr_6 := Lib.hid (Fr_5.out.under hL)
  clear Fr_5
  have MX_6 := Lib.hid (below_more MX_5.out hL MX_5.out.size)
  clear MX_5
  have A_6 := Lib.hid (A_5.out.under hL)
  clear A_5
  have MA_6 := Lib.hid (below_more MA_5.out hL MA_5.out.size)
  clear MA_5
  clear hM5 hs5
  have Bb_6 := Lib.hid (hBb)
  clear hL hLx hBb elb hlbl hgb
  have MB_6 := Lib.hid (Below.refl w6.heap.size w6)
  have hgb2 : gb < w6.heap.size := Bb_6.out.lt
  go_wp2_with fail
  go_region_held3 (fun _ => True) (trivial) ((go_at_call 29; refine (Two_arr #[.int .u8 1, .int .u8 0, .int .u8 0, .int .u8 0] _ _ _ k code [1, 0, 0, 0] data (by rfl) _ ((Bk_6.out.slB HK.out (by decide)).drewN 1) HK.out ((Bc_6.out.slB HC.out (by decide)).drewN 1) HC.out rfl (D_6.out.drewN 1) (by rw [EL.out]; omega)).mono ?_; rintro e w7 ⟨v, rfl, hO, hLx⟩))
  have hL : Below w6.heap.size w6 w7 := below_more (Drawn.below0 ⟨1, rfl⟩) hLx (Nat.le_refl _)
  obtain ⟨lc, elc⟩ : ∃ l, ptwo k code [1, 0, 0, 0] data = l := ⟨_, rfl⟩
  have hlcl : lc.length = 4 := by rw [← elc]; exact ptwo_len _ _ _ _
  rw [elc] at hO
  obtain ⟨gc, cc, egc, hgc, hgc2, _, _, _⟩ := hO.form (by rw [hlcl]; decide)
  rw [hlcl] at egc
  subst egc
  have HLC := Lib.hid hlcl
  have hgc1 : w6.heap.size ≤ gc := hgc
  have hbc : gb < gc := by have := MB_6.out.size; omega
  have hM7 : Below N w w7 := below_more hM6 hL hs6
  have hs7 : N ≤ w7.heap.size := Nat.le_trans hs6 (hL).size
  have Bk_7 := Lib.hid (Bk_6.out.under hL)
  clear Bk_6
  have Bc_7 := Lib.hid (Bc_6.out.under hL)
  clear Bc_6
  have D_7 := Lib.hid (D_6.out.below hL)
  clear D_6
  have Was_7 := Lib.hid (Was_6.out.under hL)
  clear Was_6
  have Fr_7 := Lib.hid (Fr_6.out.under hL)
  clear Fr_6
  have MX_7 := Lib.hid (below_more MX_6.out hL MX_6.out.size)
  clear MX_6
  have A_7 := Lib.hid (A_6.out.under hL)
  clear A_6
  have MA_7 := Lib.hid (below_more MA_6.out hL MA_6.out.size)
  clear MA_6
  have Bb_7 := Lib.hid (Bb_6.out.under hL)
  clear Bb_6
  have MB_7 := Lib.hid (below_more MB_6.out hL MB_6.out.size)
  clear MB_6
  clear hM6 hs6
  have C_7 := Lib.hid (hO)
  clear hL hLx hO elc hlcl hgc
  have hgaV : w4.heap.size ≤ ga := hga
  have HAx := Lib.hid A_7.out
  have HBx := Lib.hid Bb_7.out
  have HCc := Lib.hid C_7.out
  have HMXc := Lib.hid MX_7.out
  go_wp2_with fail
  go_loopw [15] (fun i wr => ∃ (m : Nat) (xa xb xc : List UInt8), m ≤ 8 ∧ i = .int .i64 m ∧ Hid (xa.length = 8) ∧ Hid (xb.length = 8) ∧ Hid (xc.length = 4) ∧ Own wr w4.heap.size (.slice (some ⟨ga, 0, none⟩) 8 ca) xa ∧ Blk wr gb Tb xb ∧ Own wr w6.heap.size (.slice (some ⟨gc, 0, none⟩) 4 cc) xc ∧ Below w4.heap.size w4 wr) (fun i _ => 8 - (intOf i).toNat)
  case atStart => exact ⟨0, la, lb, lc, by omega, rfl, HLA, HLB, HLC, HAx.out, HBx.out, HCc.out, HMXc.out⟩
  case round =>
    clear HAx HBx HCc HMXc
    obtain ⟨m, xa, xb, xc, hm, rfl, hla, hlb, hlc, hA, hB, hC, hW⟩ := hrel
    have HA := Lib.hid hA
    have HBq := Lib.hid hB
    have HCq := Lib.hid hC
    have HW := Lib.hid hW
    clear hA hB hC hW
    by_cases hlt : m < 8
    · have HLT := Lib.hid hlt
      go_wp2_with (first
        | ((with_reducible show wpList _ _ _ _ _ wr); refine store_o (w := wr) rfl 5 _ _ rfl w4.heap.size ga m 8 ca xa 0 (by rfl) _ (by rfl) rfl HA.out (by rw [hla.out]; exact HLT.out) (by kernel_rfl) ?_; intro u7 hA7 hG7 hz7; have HB7 := Lib.hid (HBq.out.old hG7 (by simp; omega)); have HA7 := Lib.hid hA7; have HG7 := Lib.hid hG7; clear hA7 hG7)
        | ((with_reducible show wpList _ _ _ _ _ u7); refine store_b (w := u7) rfl 5 _ _ rfl gb m Tb xb 0 (by rfl) _ (by rfl) rfl HB7.out (by rw [hlb.out]; exact HLT.out) (by kernel_rfl) ?_; intro u8 hB8 hG8 hz8; have HB8 := Lib.hid hB8; have HG8 := Lib.hid hG8; clear hB8 hG8))
      go_roundw
      case rel =>
        refine ⟨m + 1, _, _, xc, HLT.out, by go_num, Lib.hid (by rw [List.length_set]; exact hla.out), Lib.hid (by rw [List.length_set]; exact hlb.out), hlc, HA7.out.kept HG8.out (.inr (by simp [Value.ownBlock]; omega)), HB8.out, (HCq.out.kept HG7.out (.inr (by simp [Value.ownBlock]; omega))).kept HG8.out (.inr (by simp [Value.ownBlock]; omega)), below_new (below_new HW.out HW.out.size HG7.out hgaV) (by have := HW.out.size; have := HG7.out.size; omega) HG8.out (by omega)⟩
      case measure => have : m < 8 := HLT.out; simp [intOf]; omega
    go_wp2_with fail
    clear HA HBq
    obtain ⟨wq, ewq⟩ : ∃ wq : World, wq = wr := ⟨_, rfl⟩
    subst ewq
    go_loopw [16] (fun i wr => ∃ (m : Nat) (xc : List UInt8), m ≤ 4 ∧ i = .int .i64 m ∧ Hid (xc.length = 4) ∧ Own wr w6.heap.size (.slice (some ⟨gc, 0, none⟩) 4 cc) xc ∧ Below w4.heap.size w4 wr) (fun i _ => 4 - (intOf i).toNat)
    case atStart => exact ⟨0, xc, by omega, rfl, hlc, HCq.out, HW.out⟩
    case round =>
      clear HCq HW hlc
      obtain ⟨m2, xd, hm2, rfl, hld, hC, hW⟩ := hrel
      have HCq := Lib.hid hC
      have HW := Lib.hid hW
      clear hC hW
      by_cases hlt2 : m2 < 4
      · have HLT := Lib.hid hlt2
        go_wp2_with ((with_reducible show wpList _ _ _ _ _ wr); refine store_o (w := wr) rfl 5 _ _ rfl w6.heap.size gc m2 4 cc xd 0 (by rfl) _ (by rfl) rfl HCq.out (by rw [hld.out]; exact HLT.out) (by kernel_rfl) ?_; intro u7 hA7 hG7 hz7; have HA7 := Lib.hid hA7; have HG7 := Lib.hid hG7; clear hA7 hG7)
        go_roundw
        case rel =>
          exact ⟨m2 + 1, _, HLT.out, by go_num, Lib.hid (by rw [List.length_set]; exact hld.out), HA7.out, below_new HW.out HW.out.size HG7.out (by omega)⟩
        case measure => have : m2 < 4 := HLT.out; simp [intOf]; omega
      have hM8 : Below N w wr := below_more HMx.out HW.out HSx.out
      have hs8 : N ≤ wr.heap.size := Nat.le_trans HSx.out HW.out.size
      have D_8 := Lib.hid (HDx.out.below HW.out)
      have Was_8 := Lib.hid (HWx.out.below HW.out)
      have Bc_8 := Lib.hid (HCx.out.under HW.out)
      have Fr_8 := Lib.hid (HFx.out.under HW.out)
      go_wp2_with fail
      refine (Same_any _ _ data data wr D_8.out Was_8.out (by rw [EL.out]; omega)).mono ?_
      rintro e w9 ⟨rfl, hD⟩
      rw [beq_self_eq_true]
      have hM9 : Below N w w9 := below_more hM8 hD.below0 hs8
      have hs9 : N ≤ w9.heap.size := Nat.le_trans hs8 (hD.below0).size
      have D_9 := Lib.hid (D_8.out.below hD.below0)
      clear D_8
      have Was_9 := Lib.hid (Was_8.out.below hD.below0)
      clear Was_8
      have Bc_9 := Lib.hid (Bc_8.out.under hD.below0)
      clear Bc_8
      have Fr_9 := Lib.hid (Fr_8.out.under hD.below0)
      clear Fr_8
      clear hM8 hs8
      clear hD
      go_wp2_with (first
        | (refine load_blk_g (w := w9) (by rfl) 23 _ rfl (N + 1) 23 8 5 code (by rfl) Bc_9.out HC.out (by kernel_rfl) (by kernel_rfl) ?_)
        | (refine load_blk_g (w := w9) (by rfl) 23 _ rfl gf 23 8 5 code (by rfl) Fr_9.out HC.out (by kernel_rfl) (by kernel_rfl) ?_))
      go_ret
      exact ⟨rfl, by rw [HN.out]; exact hM9⟩
end Go.Proofs.Ytjbdhnmkeaogcaa
