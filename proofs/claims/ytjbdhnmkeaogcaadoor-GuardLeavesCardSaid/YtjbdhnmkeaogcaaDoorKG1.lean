/- GuardFive: an officer who gave another code five times is out for good; a right one ahead lets it begin anew. -/
import Derived.Test.YtjbdhnmkeaogcaaDoorKG0
import Derived.Test.YtjbdhnmkeaogcaaDoorKB5
import Derived.Laws.StructEq
set_option linter.unusedVariables false
set_option linter.unusedSimpArgs false
namespace Lk
def cAlpha : ByteArray := ⟨#[97, 108, 112, 104, 97]⟩
def cOmega : ByteArray := ⟨#[111, 109, 101, 103, 97, 50]⟩
def cNo : ByteArray := ⟨#[110, 111]⟩
end Lk
namespace Go.Proofs.YtjbdhnmkeaogcaaDoor
open Go.RowKit Lk
set_option maxHeartbeats 12800000 in
set_option maxRecDepth 100000 in
theorem GuardFive_0 (K : List UInt8) (n m : UInt8) (w : World) (hE : Et w) (hk : K.length = 16) : Calls Tryd.prog 17 #[.agg (Bs K), .int .u8 (bv n), .int .u8 (bv m), .bool false] w fun e w' => e = .returned (.bool true) ∧ Below w.heap.size w w' := by
  obtain ⟨N, hN⟩ : ∃ N, w.heap.size = N := ⟨_, rfl⟩
  have HN := Lib.hid hN
  obtain ⟨T0, eT0⟩ : ∃ t, ptag K 0 cAlpha = t := ⟨_, rfl⟩
  obtain ⟨T1, eT1⟩ : ∃ t, ptag K 1 cOmega = t := ⟨_, rfl⟩
  have HK := Lib.hid hk
  have H0 := Lib.hid (show T0.length = 16 by rw [← eT0]; exact ptag_len _ _ _)
  have H1 := Lib.hid (show T1.length = 16 by rw [← eT1]; exact ptag_len _ _ _)
  have HNW := Lib.hid (fun (w1 : World) => GNew_yes K cAlpha cOmega w1 hk (by decide) (by decide) (by decide) (by decide))
  rw [eT0, eT1] at HNW
  have ET0 := Lib.hid eT0
  have ET1 := Lib.hid eT1
  have y0 := bv_ge n
  have y1 := bv_lt n
  generalize bv n = y at y0 y1 ⊢
  have z0 := bv_ge m
  have z1 := bv_lt m
  generalize bv m = z at z0 z1 ⊢
  obtain ⟨p, ep⟩ : ∃ p : Nat, y % 5 = (p : Int) := ⟨(y % 5).toNat, by omega⟩
  obtain ⟨q, eq⟩ : ∃ q : Nat, z % 8 = (q : Int) := ⟨(z % 8).toNat, by omega⟩
  have hp5 : p < 5 := by omega
  have hq8 : q < 8 := by omega
  clear eT0 eT1 hk
  have hM0 : Below N w w := Below.refl _ _
  have hs0 : N ≤ w.heap.size := by omega
  have E_0 := Lib.hid (hE)
  clear hE
  go_enter Tryd.func17, Tryd.ntmps17
  go_wp2_with (first | ((with_reducible show wpList _ _ _ _ _ w); refine box_blk (w := w) rfl 41 _ rfl K rfl ?_; intro u0 hA0 hG0 hz0; have hL : Below w.heap.size w u0 := below_none (Below.refl _ _) (Nat.le_refl _) hG0; rw [hN] at hA0 ⊢; clear hG0 hz0; have hM1 : Below N w u0 := below_more hM0 hL hs0; have hs1 : N ≤ u0.heap.size := Nat.le_trans hs0 (hL).size; have E_1 := Lib.hid (E_0.out.below hL); clear E_0; clear hM0 hs0; have K_1 := Lib.hid (hA0); clear hL hA0; have SMv := Lib.hid hM1; have SSv := Lib.hid hs1; have SvE := Lib.hid E_1.out; have SvK := Lib.hid K_1.out; have Mv_1 := Lib.hid (Below.refl u0.heap.size u0)) | ((with_reducible show wpList _ _ _ _ _ u0); refine load_blk (w := u0) rfl 41 _ rfl N 41 16 5 K (by rfl) K_1.out HK.out (by kernel_rfl) (by kernel_rfl) ?_) | (go_at_call 53; (with_reducible show Calls _ _ _ u0 _); refine (HNW.out u0).mono ?_; rintro e w2c ⟨rfl, hLc⟩) | ((with_reducible show wpList _ _ _ _ _ w2c); refine alloc_row (w := w2c) rfl gdt rfl (.agg (ga zg zg zg false false 0 0)) 52 (fun _ => by kernel_rfl) (by kernel_rfl) ?_; intro w2a hRa _ hGa hza) | ((with_reducible show wpList _ _ _ _ _ w2a); refine store_vr (w := w2a) rfl gdt _ _ rfl w2c.heap.size gdt 52 (gcs K T0 T1 false false 0 0) (by rfl) (by rfl) hRa (gcs_one _ _ _ _ _ _ _) (gcs_len _ _ _ _ _ _ _ HK.out H0.out H1.out) gdt_i ?_; intro w2 hBb hGb hzb; have hL : Below u0.heap.size u0 w2 := below_new (below_none hLc hLc.size hGa) (by have := hLc.size; omega) hGb hLc.size; obtain ⟨Gg, eGx⟩ : ∃ g, w2c.heap.size = g := ⟨_, rfl⟩; have hgB : GB w2 Gg gdt K T0 T1 false false 0 0 := (by rw [← eGx]; exact hBb); have hGv : u0.heap.size ≤ Gg := (by rw [← eGx]; exact hLc.size); rw [eGx]; clear hRa hGa hza hBb hGb hzb hLc eGx; have hM2 : Below N w w2 := below_more hM1 hL hs1; have hs2 : N ≤ w2.heap.size := Nat.le_trans hs1 (hL).size; have E_2 := Lib.hid (E_1.out.below hL); clear E_1; have K_2 := Lib.hid (K_1.out.under hL); clear K_1; have Mv_2 := Lib.hid (below_more Mv_1.out hL Mv_1.out.size); clear Mv_1; clear hM1 hs1; have g_2 := Lib.hid (hgB); clear hL hgB) | (go_at_call 54; (with_reducible show Calls _ _ _ w2 _); refine (awake24 w2 E_2.out).mono ?_; rintro e w3 ⟨rfl, hL⟩; have hM3 : Below N w w3 := below_more hM2 hL hs2; have hs3 : N ≤ w3.heap.size := Nat.le_trans hs2 (hL).size; have E_3 := Lib.hid (E_2.out.below hL); clear E_2; have K_3 := Lib.hid (K_2.out.under hL); clear K_2; have Mv_3 := Lib.hid (below_more Mv_2.out hL Mv_2.out.size); clear Mv_2; have g_3 := Lib.hid (g_2.out.next hL); clear g_2; clear hM2 hs2; clear hL; have HVG := Lib.hid (show u0.heap.size ≤ Gg from hGv)))
  have HG0 := Lib.hid g_3.out
  have HM0 := Lib.hid Mv_3.out
  clear hGv
  go_loopw [13] (fun i wr => ∃ k : Nat, k ≤ p ∧ i = .int .i64 k ∧ GB wr Gg gdt K T0 T1 false false (k : Int) 0 ∧ Below u0.heap.size u0 wr) (fun i _ => p - (intOf i).toNat)
  case atStart => exact ⟨0, by omega, rfl, HG0.out, HM0.out⟩
  case round =>
    clear HG0 HM0
    obtain ⟨k, hkp, rfl, hg, hM⟩ := hrel
    have HG := Lib.hid hg
    have HM := Lib.hid hM
    clear hg hM
    by_cases hlt : k < p
    · have HLT := Lib.hid hlt
      go_wp2_with (first | ((with_reducible show wpList _ _ _ _ _ wr); refine load_gd (w := wr) (by rfl) _ rfl Gg gdt K T0 T1 false false (k : Int) 0 (by rfl) HG.out HK.out H0.out H1.out ?_) | (go_at_call 55; refine (Enter_none0 K T0 T1 false false (k : Int) 0 cNo wr HK.out H0.out H1.out (by omega) (by have := HLT.out; omega) (by decide) (by decide)).mono ?_; rintro e u1 ⟨rfl, hLc⟩) | ((with_reducible show wpList _ _ _ _ _ u1); refine store_vr (w := u1) rfl gdt _ _ rfl Gg gdt 52 (gcs K T0 T1 false false ((k : Int) + 1) 0) (by rfl) (by rfl) ((HG.out.next hLc).vb.row (gcs_len _ _ _ _ _ _ _ HK.out H0.out H1.out)) (gcs_one _ _ _ _ _ _ _) (gcs_len _ _ _ _ _ _ _ HK.out H0.out H1.out) gdt_i ?_; intro u2 hBb hGb hzb; have HM2 := Lib.hid (show Below u0.heap.size u0 u2 from below_new (below_more HM.out hLc HM.out.size) (by have := hLc.size; have := HM.out.size; omega) hGb HVG.out); have HB2 := Lib.hid (show GB u2 Gg gdt K T0 T1 false false ((k : Int) + 1) 0 from hBb); clear hBb hGb hzb hLc))
      go_roundw
      case rel => exact ⟨k + 1, HLT.out, by go_num, (by have h := HB2.out; rw [show ((k + 1 : Nat) : Int) = (k : Int) + 1 from by omega]; exact h), HM2.out⟩
      case measure => have := HLT.out; simp [intOf]; omega
    have hkp2 : k = p := by omega
    subst hkp2
    have HMv2 := HM
    have hM4 : Below N w wr := below_more SMv.out HM.out SSv.out
    have hs4 : N ≤ wr.heap.size := Nat.le_trans SSv.out (HM.out).size
    have E_4 := Lib.hid (SvE.out.below HM.out)
    have K_4 := Lib.hid (SvK.out.under HM.out)
    have g_4 := Lib.hid (HG.out)
    have HV := HVG
    clear HG HM
    go_wp2_with (first | ((with_reducible show wpList _ _ _ _ _ wr); refine load_gd (w := wr) (by rfl) _ rfl Gg gdt K T0 T1 false false (k : Int) 0 (by rfl) g_4.out HK.out H0.out H1.out ?_) | (go_at_call 55; (with_reducible show Calls _ _ _ wr _); refine (Enter_yes0 K T0 T1 false false (k : Int) 0 cAlpha wr HK.out H0.out H1.out (by omega) (by omega) (by decide) (by decide) ET0.out).mono ?_; rintro e u1 ⟨rfl, hLc⟩) | ((with_reducible show wpList _ _ _ _ _ u1); refine store_vr (w := u1) rfl gdt _ _ rfl Gg gdt 52 (gcs K T0 T1 true false 0 0) (by rfl) (by rfl) ((g_4.out.next hLc).vb.row (gcs_len _ _ _ _ _ _ _ HK.out H0.out H1.out)) (gcs_one _ _ _ _ _ _ _) (gcs_len _ _ _ _ _ _ _ HK.out H0.out H1.out) gdt_i ?_; intro u2 hBb hGb hzb; have HM3 := Lib.hid (show Below u0.heap.size u0 u2 from below_new (below_more HMv2.out hLc HMv2.out.size) (by have := hLc.size; have := HMv2.out.size; omega) hGb HVG.out); have hB3 : GB u2 Gg gdt K T0 T1 true false 0 0 := hBb; have cb := hB3.bad0 HK.out H0.out H1.out; have ci := hB3.in0 HK.out H0.out H1.out; have HB3 := Lib.hid hB3; clear hBb hGb hzb hLc hB3))
    have HG3 := HB3
    clear cb ci
    obtain ⟨wz, ewz⟩ : ∃ x : World, x = u2 := ⟨_, rfl⟩
    subst ewz
    go_loopw [15] (fun i wr => ∃ k2 : Nat, k2 ≤ q ∧ i = .int .i64 k2 ∧ GB wr Gg gdt K T0 T1 (k2 == 0) false ((min k2 5 : Nat) : Int) 0 ∧ Below u0.heap.size u0 wr) (fun i _ => q - (intOf i).toNat)
    case atStart => exact ⟨0, by omega, rfl, HB3.out, HM3.out⟩
    case round =>
      clear HB3 HM3 HG3
      obtain ⟨k2, hkq, rfl, hg, hM⟩ := hrel
      by_cases hlt2 : k2 < q
      · have HLT := Lib.hid hlt2
        by_cases h5 : k2 < 5
        · have HG := Lib.hid (show GB wr Gg gdt K T0 T1 (k2 == 0) false (k2 : Int) 0 from by rw [show min k2 5 = k2 by omega] at hg; exact hg)
          have HM := Lib.hid hM
          have H5 := Lib.hid h5
          clear hg hM h5
          go_wp2_with (first | ((with_reducible show wpList _ _ _ _ _ wr); refine load_gd (w := wr) (by rfl) _ rfl Gg gdt K T0 T1 (k2 == 0) false (k2 : Int) 0 (by rfl) HG.out HK.out H0.out H1.out ?_) | (go_at_call 55; refine (Enter_none0 K T0 T1 (k2 == 0) false (k2 : Int) 0 cNo wr HK.out H0.out H1.out (by omega) (by have := H5.out; omega) (by decide) (by decide)).mono ?_; rintro e u1 ⟨rfl, hLc⟩) | ((with_reducible show wpList _ _ _ _ _ u1); refine store_vr (w := u1) rfl gdt _ _ rfl Gg gdt 52 (gcs K T0 T1 false false ((k2 : Int) + 1) 0) (by rfl) (by rfl) ((HG.out.next hLc).vb.row (gcs_len _ _ _ _ _ _ _ HK.out H0.out H1.out)) (gcs_one _ _ _ _ _ _ _) (gcs_len _ _ _ _ _ _ _ HK.out H0.out H1.out) gdt_i ?_; intro u2 hBb hGb hzb; have HM2 := Lib.hid (show Below u0.heap.size u0 u2 from below_new (below_more HM.out hLc HM.out.size) (by have := hLc.size; have := HM.out.size; omega) hGb HVG.out); have HB2 := Lib.hid (show GB u2 Gg gdt K T0 T1 false false ((k2 : Int) + 1) 0 from hBb); clear hBb hGb hzb hLc))
          go_roundw
          case rel => exact ⟨k2 + 1, HLT.out, by go_num, (by have h := HB2.out; have h5 := H5.out; rw [show min (k2 + 1) 5 = k2 + 1 by omega, show ((k2 + 1 : Nat) : Int) = (k2 : Int) + 1 from by omega, show (k2 + 1 == 0) = false from rfl]; exact h), HM2.out⟩
          case measure => have := HLT.out; simp [intOf]; omega
        · have HG := Lib.hid (show GB wr Gg gdt K T0 T1 false false 5 0 from by rw [show min k2 5 = 5 by omega, show (k2 == 0) = false by simp; omega] at hg; exact hg)
          have HM := Lib.hid hM
          have H5 := Lib.hid h5
          clear hg hM h5
          go_wp2_with (first | ((with_reducible show wpList _ _ _ _ _ wr); refine load_gd (w := wr) (by rfl) _ rfl Gg gdt K T0 T1 false false 5 0 (by rfl) HG.out HK.out H0.out H1.out ?_) | (go_at_call 55; refine (Enter_locked0 K T0 T1 false false 5 0 cNo wr HK.out H0.out H1.out (by decide)).mono ?_; rintro e u1 ⟨rfl, hLc⟩) | ((with_reducible show wpList _ _ _ _ _ u1); refine store_vr (w := u1) rfl gdt _ _ rfl Gg gdt 52 (gcs K T0 T1 false false 5 0) (by rfl) (by rfl) ((HG.out.next hLc).vb.row (gcs_len _ _ _ _ _ _ _ HK.out H0.out H1.out)) (gcs_one _ _ _ _ _ _ _) (gcs_len _ _ _ _ _ _ _ HK.out H0.out H1.out) gdt_i ?_; intro u2 hBb hGb hzb; have HM2 := Lib.hid (show Below u0.heap.size u0 u2 from below_new (below_more HM.out hLc HM.out.size) (by have := hLc.size; have := HM.out.size; omega) hGb HVG.out); have HB2 := Lib.hid (show GB u2 Gg gdt K T0 T1 false false 5 0 from hBb); clear hBb hGb hzb hLc))
          go_roundw
          case rel => exact ⟨k2 + 1, HLT.out, by go_num, (by have h := HB2.out; have h5 := H5.out; rw [show min (k2 + 1) 5 = 5 by omega, show (k2 + 1 == 0) = false from rfl]; exact h), HM2.out⟩
          case measure => have := HLT.out; simp [intOf]; omega
      have hkq2 : k2 = q := by omega
      subst hkq2
      by_cases h5 : k2 < 5
      · have HG := Lib.hid (show GB wr Gg gdt K T0 T1 (k2 == 0) false (k2 : Int) 0 from by rw [show min k2 5 = k2 by omega] at hg; exact hg)
        have d5 : ¬ (5 : Int) ≤ (k2 : Int) := by omega
        have HM := Lib.hid hM
        clear hg hM
        go_wp2_with (first | ((with_reducible show wpList _ _ _ _ _ wr); refine load_gd (w := wr) (by rfl) _ rfl Gg gdt K T0 T1 (k2 == 0) false (k2 : Int) 0 (by rfl) HG.out HK.out H0.out H1.out ?_) | (go_at_call 55; refine (Enter_yes0 K T0 T1 (k2 == 0) false (k2 : Int) 0 cAlpha wr HK.out H0.out H1.out (by omega) (by omega) (by decide) (by decide) ET0.out).mono ?_; rintro e u1 ⟨rfl, hLc⟩) | ((with_reducible show wpList _ _ _ _ _ u1); refine alloc_row (w := u1) rfl gdt rfl (.agg (ga zg zg zg false false 0 0)) 52 (fun _ => by kernel_rfl) (by kernel_rfl) ?_; intro u2 hRa _ hGa hza) | ((with_reducible show wpList _ _ _ _ _ u2); refine store_vr (w := u2) rfl gdt _ _ rfl u1.heap.size gdt 52 (gcs K T0 T1 true false 0 0) (by rfl) (by rfl) hRa (gcs_one _ _ _ _ _ _ _) (gcs_len _ _ _ _ _ _ _ HK.out H0.out H1.out) gdt_i ?_; intro u3 hBb hGb hzb; have hL : Below wr.heap.size wr u3 := (below_new (below_none hLc hLc.size hGa) (by have := hLc.size; omega) hGb hLc.size); have HM3 := Lib.hid (below_more HM.out hL HM.out.size); have HG3 := Lib.hid (HG.out.next hL); have HE3 := Lib.hid (SvE.out.below HM3.out); clear hRa hGa hza hBb hGb hzb hLc hL))
        go_ret
        exact ⟨rfl, by rw [HN.out]; exact below_more SMv.out HM3.out SSv.out⟩
      · have HG := Lib.hid (show GB wr Gg gdt K T0 T1 false false 5 0 from by rw [show min k2 5 = 5 by omega, show (k2 == 0) = false by simp; omega] at hg; exact hg)
        have d5 : (5 : Int) ≤ (k2 : Int) := by omega
        have HM := Lib.hid hM
        clear hg hM
        go_wp2_with (first | ((with_reducible show wpList _ _ _ _ _ wr); refine load_gd (w := wr) (by rfl) _ rfl Gg gdt K T0 T1 false false 5 0 (by rfl) HG.out HK.out H0.out H1.out ?_) | (go_at_call 55; refine (Enter_locked0 K T0 T1 false false 5 0 cAlpha wr HK.out H0.out H1.out (by decide)).mono ?_; rintro e u1 ⟨rfl, hLc⟩) | ((with_reducible show wpList _ _ _ _ _ u1); refine alloc_row (w := u1) rfl gdt rfl (.agg (ga zg zg zg false false 0 0)) 52 (fun _ => by kernel_rfl) (by kernel_rfl) ?_; intro u2 hRa _ hGa hza) | ((with_reducible show wpList _ _ _ _ _ u2); refine store_vr (w := u2) rfl gdt _ _ rfl u1.heap.size gdt 52 (gcs K T0 T1 false false 5 0) (by rfl) (by rfl) hRa (gcs_one _ _ _ _ _ _ _) (gcs_len _ _ _ _ _ _ _ HK.out H0.out H1.out) gdt_i ?_; intro u3 hBb hGb hzb; have hL : Below wr.heap.size wr u3 := (below_new (below_none hLc hLc.size hGa) (by have := hLc.size; omega) hGb hLc.size); have HM3 := Lib.hid (below_more HM.out hL HM.out.size); have HG3 := Lib.hid (HG.out.next hL); have HE3 := Lib.hid (SvE.out.below HM3.out); clear hRa hGa hza hBb hGb hzb hLc hL) | (go_at_call 27; refine (Code_any [] 9 _ u3 HE3.out rfl).mono ?_; rintro e u4 ⟨rfl, hL4⟩; have HM4 := Lib.hid (below_more HM3.out hL4 HM3.out.size); have cb := (HG3.out.next hL4).bad0 HK.out H0.out H1.out))
        go_ret
        exact ⟨rfl, by rw [HN.out]; exact below_more SMv.out HM4.out SSv.out⟩
set_option maxHeartbeats 12800000 in
set_option maxRecDepth 100000 in
theorem GuardFive_1 (K : List UInt8) (n m : UInt8) (w : World) (hE : Et w) (hk : K.length = 16) : Calls Tryd.prog 17 #[.agg (Bs K), .int .u8 (bv n), .int .u8 (bv m), .bool true] w fun e w' => e = .returned (.bool true) ∧ Below w.heap.size w w' := by
  obtain ⟨N, hN⟩ : ∃ N, w.heap.size = N := ⟨_, rfl⟩
  have HN := Lib.hid hN
  obtain ⟨T0, eT0⟩ : ∃ t, ptag K 0 cAlpha = t := ⟨_, rfl⟩
  obtain ⟨T1, eT1⟩ : ∃ t, ptag K 1 cOmega = t := ⟨_, rfl⟩
  have HK := Lib.hid hk
  have H0 := Lib.hid (show T0.length = 16 by rw [← eT0]; exact ptag_len _ _ _)
  have H1 := Lib.hid (show T1.length = 16 by rw [← eT1]; exact ptag_len _ _ _)
  have HNW := Lib.hid (fun (w1 : World) => GNew_yes K cAlpha cOmega w1 hk (by decide) (by decide) (by decide) (by decide))
  rw [eT0, eT1] at HNW
  have ET0 := Lib.hid eT0
  have ET1 := Lib.hid eT1
  have y0 := bv_ge n
  have y1 := bv_lt n
  generalize bv n = y at y0 y1 ⊢
  have z0 := bv_ge m
  have z1 := bv_lt m
  generalize bv m = z at z0 z1 ⊢
  obtain ⟨p, ep⟩ : ∃ p : Nat, y % 5 = (p : Int) := ⟨(y % 5).toNat, by omega⟩
  obtain ⟨q, eq⟩ : ∃ q : Nat, z % 8 = (q : Int) := ⟨(z % 8).toNat, by omega⟩
  have hp5 : p < 5 := by omega
  have hq8 : q < 8 := by omega
  clear eT0 eT1 hk
  have hM0 : Below N w w := Below.refl _ _
  have hs0 : N ≤ w.heap.size := by omega
  have E_0 := Lib.hid (hE)
  clear hE
  go_enter Tryd.func17, Tryd.ntmps17
  go_wp2_with (first | ((with_reducible show wpList _ _ _ _ _ w); refine box_blk (w := w) rfl 41 _ rfl K rfl ?_; intro u0 hA0 hG0 hz0; have hL : Below w.heap.size w u0 := below_none (Below.refl _ _) (Nat.le_refl _) hG0; rw [hN] at hA0 ⊢; clear hG0 hz0; have hM1 : Below N w u0 := below_more hM0 hL hs0; have hs1 : N ≤ u0.heap.size := Nat.le_trans hs0 (hL).size; have E_1 := Lib.hid (E_0.out.below hL); clear E_0; clear hM0 hs0; have K_1 := Lib.hid (hA0); clear hL hA0; have SMv := Lib.hid hM1; have SSv := Lib.hid hs1; have SvE := Lib.hid E_1.out; have SvK := Lib.hid K_1.out; have Mv_1 := Lib.hid (Below.refl u0.heap.size u0)) | ((with_reducible show wpList _ _ _ _ _ u0); refine load_blk (w := u0) rfl 41 _ rfl N 41 16 5 K (by rfl) K_1.out HK.out (by kernel_rfl) (by kernel_rfl) ?_) | (go_at_call 53; (with_reducible show Calls _ _ _ u0 _); refine (HNW.out u0).mono ?_; rintro e w2c ⟨rfl, hLc⟩) | ((with_reducible show wpList _ _ _ _ _ w2c); refine alloc_row (w := w2c) rfl gdt rfl (.agg (ga zg zg zg false false 0 0)) 52 (fun _ => by kernel_rfl) (by kernel_rfl) ?_; intro w2a hRa _ hGa hza) | ((with_reducible show wpList _ _ _ _ _ w2a); refine store_vr (w := w2a) rfl gdt _ _ rfl w2c.heap.size gdt 52 (gcs K T0 T1 false false 0 0) (by rfl) (by rfl) hRa (gcs_one _ _ _ _ _ _ _) (gcs_len _ _ _ _ _ _ _ HK.out H0.out H1.out) gdt_i ?_; intro w2 hBb hGb hzb; have hL : Below u0.heap.size u0 w2 := below_new (below_none hLc hLc.size hGa) (by have := hLc.size; omega) hGb hLc.size; obtain ⟨Gg, eGx⟩ : ∃ g, w2c.heap.size = g := ⟨_, rfl⟩; have hgB : GB w2 Gg gdt K T0 T1 false false 0 0 := (by rw [← eGx]; exact hBb); have hGv : u0.heap.size ≤ Gg := (by rw [← eGx]; exact hLc.size); rw [eGx]; clear hRa hGa hza hBb hGb hzb hLc eGx; have hM2 : Below N w w2 := below_more hM1 hL hs1; have hs2 : N ≤ w2.heap.size := Nat.le_trans hs1 (hL).size; have E_2 := Lib.hid (E_1.out.below hL); clear E_1; have K_2 := Lib.hid (K_1.out.under hL); clear K_1; have Mv_2 := Lib.hid (below_more Mv_1.out hL Mv_1.out.size); clear Mv_1; clear hM1 hs1; have g_2 := Lib.hid (hgB); clear hL hgB) | (go_at_call 54; (with_reducible show Calls _ _ _ w2 _); refine (awake24 w2 E_2.out).mono ?_; rintro e w3 ⟨rfl, hL⟩; have hM3 : Below N w w3 := below_more hM2 hL hs2; have hs3 : N ≤ w3.heap.size := Nat.le_trans hs2 (hL).size; have E_3 := Lib.hid (E_2.out.below hL); clear E_2; have K_3 := Lib.hid (K_2.out.under hL); clear K_2; have Mv_3 := Lib.hid (below_more Mv_2.out hL Mv_2.out.size); clear Mv_2; have g_3 := Lib.hid (g_2.out.next hL); clear g_2; clear hM2 hs2; clear hL; have HVG := Lib.hid (show u0.heap.size ≤ Gg from hGv)))
  have HG0 := Lib.hid g_3.out
  have HM0 := Lib.hid Mv_3.out
  clear hGv
  go_loopw [13] (fun i wr => ∃ k : Nat, k ≤ p ∧ i = .int .i64 k ∧ GB wr Gg gdt K T0 T1 false false 0 (k : Int) ∧ Below u0.heap.size u0 wr) (fun i _ => p - (intOf i).toNat)
  case atStart => exact ⟨0, by omega, rfl, HG0.out, HM0.out⟩
  case round =>
    clear HG0 HM0
    obtain ⟨k, hkp, rfl, hg, hM⟩ := hrel
    have HG := Lib.hid hg
    have HM := Lib.hid hM
    clear hg hM
    by_cases hlt : k < p
    · have HLT := Lib.hid hlt
      go_wp2_with (first | ((with_reducible show wpList _ _ _ _ _ wr); refine load_gd (w := wr) (by rfl) _ rfl Gg gdt K T0 T1 false false 0 (k : Int) (by rfl) HG.out HK.out H0.out H1.out ?_) | (go_at_call 55; refine (Enter_none1 K T0 T1 false false 0 (k : Int) cNo wr HK.out H0.out H1.out (by omega) (by have := HLT.out; omega) (by decide) (by decide)).mono ?_; rintro e u1 ⟨rfl, hLc⟩) | ((with_reducible show wpList _ _ _ _ _ u1); refine store_vr (w := u1) rfl gdt _ _ rfl Gg gdt 52 (gcs K T0 T1 false false 0 ((k : Int) + 1)) (by rfl) (by rfl) ((HG.out.next hLc).vb.row (gcs_len _ _ _ _ _ _ _ HK.out H0.out H1.out)) (gcs_one _ _ _ _ _ _ _) (gcs_len _ _ _ _ _ _ _ HK.out H0.out H1.out) gdt_i ?_; intro u2 hBb hGb hzb; have HM2 := Lib.hid (show Below u0.heap.size u0 u2 from below_new (below_more HM.out hLc HM.out.size) (by have := hLc.size; have := HM.out.size; omega) hGb HVG.out); have HB2 := Lib.hid (show GB u2 Gg gdt K T0 T1 false false 0 ((k : Int) + 1) from hBb); clear hBb hGb hzb hLc))
      go_roundw
      case rel => exact ⟨k + 1, HLT.out, by go_num, (by have h := HB2.out; rw [show ((k + 1 : Nat) : Int) = (k : Int) + 1 from by omega]; exact h), HM2.out⟩
      case measure => have := HLT.out; simp [intOf]; omega
    have hkp2 : k = p := by omega
    subst hkp2
    have HMv2 := HM
    have hM4 : Below N w wr := below_more SMv.out HM.out SSv.out
    have hs4 : N ≤ wr.heap.size := Nat.le_trans SSv.out (HM.out).size
    have E_4 := Lib.hid (SvE.out.below HM.out)
    have K_4 := Lib.hid (SvK.out.under HM.out)
    have g_4 := Lib.hid (HG.out)
    have HV := HVG
    clear HG HM
    go_wp2_with (first | ((with_reducible show wpList _ _ _ _ _ wr); refine load_gd (w := wr) (by rfl) _ rfl Gg gdt K T0 T1 false false 0 (k : Int) (by rfl) g_4.out HK.out H0.out H1.out ?_) | (go_at_call 55; (with_reducible show Calls _ _ _ wr _); refine (Enter_yes1 K T0 T1 false false 0 (k : Int) cOmega wr HK.out H0.out H1.out (by omega) (by omega) (by decide) (by decide) ET1.out).mono ?_; rintro e u1 ⟨rfl, hLc⟩) | ((with_reducible show wpList _ _ _ _ _ u1); refine store_vr (w := u1) rfl gdt _ _ rfl Gg gdt 52 (gcs K T0 T1 false true 0 0) (by rfl) (by rfl) ((g_4.out.next hLc).vb.row (gcs_len _ _ _ _ _ _ _ HK.out H0.out H1.out)) (gcs_one _ _ _ _ _ _ _) (gcs_len _ _ _ _ _ _ _ HK.out H0.out H1.out) gdt_i ?_; intro u2 hBb hGb hzb; have HM3 := Lib.hid (show Below u0.heap.size u0 u2 from below_new (below_more HMv2.out hLc HMv2.out.size) (by have := hLc.size; have := HMv2.out.size; omega) hGb HVG.out); have hB3 : GB u2 Gg gdt K T0 T1 false true 0 0 := hBb; have cb := hB3.bad1 HK.out H0.out H1.out; have ci := hB3.in1 HK.out H0.out H1.out; have HB3 := Lib.hid hB3; clear hBb hGb hzb hLc hB3))
    have HG3 := HB3
    clear cb ci
    obtain ⟨wz, ewz⟩ : ∃ x : World, x = u2 := ⟨_, rfl⟩
    subst ewz
    go_loopw [15] (fun i wr => ∃ k2 : Nat, k2 ≤ q ∧ i = .int .i64 k2 ∧ GB wr Gg gdt K T0 T1 false (k2 == 0) 0 ((min k2 5 : Nat) : Int) ∧ Below u0.heap.size u0 wr) (fun i _ => q - (intOf i).toNat)
    case atStart => exact ⟨0, by omega, rfl, HB3.out, HM3.out⟩
    case round =>
      clear HB3 HM3 HG3
      obtain ⟨k2, hkq, rfl, hg, hM⟩ := hrel
      by_cases hlt2 : k2 < q
      · have HLT := Lib.hid hlt2
        by_cases h5 : k2 < 5
        · have HG := Lib.hid (show GB wr Gg gdt K T0 T1 false (k2 == 0) 0 (k2 : Int) from by rw [show min k2 5 = k2 by omega] at hg; exact hg)
          have HM := Lib.hid hM
          have H5 := Lib.hid h5
          clear hg hM h5
          go_wp2_with (first | ((with_reducible show wpList _ _ _ _ _ wr); refine load_gd (w := wr) (by rfl) _ rfl Gg gdt K T0 T1 false (k2 == 0) 0 (k2 : Int) (by rfl) HG.out HK.out H0.out H1.out ?_) | (go_at_call 55; refine (Enter_none1 K T0 T1 false (k2 == 0) 0 (k2 : Int) cNo wr HK.out H0.out H1.out (by omega) (by have := H5.out; omega) (by decide) (by decide)).mono ?_; rintro e u1 ⟨rfl, hLc⟩) | ((with_reducible show wpList _ _ _ _ _ u1); refine store_vr (w := u1) rfl gdt _ _ rfl Gg gdt 52 (gcs K T0 T1 false false 0 ((k2 : Int) + 1)) (by rfl) (by rfl) ((HG.out.next hLc).vb.row (gcs_len _ _ _ _ _ _ _ HK.out H0.out H1.out)) (gcs_one _ _ _ _ _ _ _) (gcs_len _ _ _ _ _ _ _ HK.out H0.out H1.out) gdt_i ?_; intro u2 hBb hGb hzb; have HM2 := Lib.hid (show Below u0.heap.size u0 u2 from below_new (below_more HM.out hLc HM.out.size) (by have := hLc.size; have := HM.out.size; omega) hGb HVG.out); have HB2 := Lib.hid (show GB u2 Gg gdt K T0 T1 false false 0 ((k2 : Int) + 1) from hBb); clear hBb hGb hzb hLc))
          go_roundw
          case rel => exact ⟨k2 + 1, HLT.out, by go_num, (by have h := HB2.out; have h5 := H5.out; rw [show min (k2 + 1) 5 = k2 + 1 by omega, show ((k2 + 1 : Nat) : Int) = (k2 : Int) + 1 from by omega, show (k2 + 1 == 0) = false from rfl]; exact h), HM2.out⟩
          case measure => have := HLT.out; simp [intOf]; omega
        · have HG := Lib.hid (show GB wr Gg gdt K T0 T1 false false 0 5 from by rw [show min k2 5 = 5 by omega, show (k2 == 0) = false by simp; omega] at hg; exact hg)
          have HM := Lib.hid hM
          have H5 := Lib.hid h5
          clear hg hM h5
          go_wp2_with (first | ((with_reducible show wpList _ _ _ _ _ wr); refine load_gd (w := wr) (by rfl) _ rfl Gg gdt K T0 T1 false false 0 5 (by rfl) HG.out HK.out H0.out H1.out ?_) | (go_at_call 55; refine (Enter_locked1 K T0 T1 false false 0 5 cNo wr HK.out H0.out H1.out (by decide)).mono ?_; rintro e u1 ⟨rfl, hLc⟩) | ((with_reducible show wpList _ _ _ _ _ u1); refine store_vr (w := u1) rfl gdt _ _ rfl Gg gdt 52 (gcs K T0 T1 false false 0 5) (by rfl) (by rfl) ((HG.out.next hLc).vb.row (gcs_len _ _ _ _ _ _ _ HK.out H0.out H1.out)) (gcs_one _ _ _ _ _ _ _) (gcs_len _ _ _ _ _ _ _ HK.out H0.out H1.out) gdt_i ?_; intro u2 hBb hGb hzb; have HM2 := Lib.hid (show Below u0.heap.size u0 u2 from below_new (below_more HM.out hLc HM.out.size) (by have := hLc.size; have := HM.out.size; omega) hGb HVG.out); have HB2 := Lib.hid (show GB u2 Gg gdt K T0 T1 false false 0 5 from hBb); clear hBb hGb hzb hLc))
          go_roundw
          case rel => exact ⟨k2 + 1, HLT.out, by go_num, (by have h := HB2.out; have h5 := H5.out; rw [show min (k2 + 1) 5 = 5 by omega, show (k2 + 1 == 0) = false from rfl]; exact h), HM2.out⟩
          case measure => have := HLT.out; simp [intOf]; omega
      have hkq2 : k2 = q := by omega
      subst hkq2
      by_cases h5 : k2 < 5
      · have HG := Lib.hid (show GB wr Gg gdt K T0 T1 false (k2 == 0) 0 (k2 : Int) from by rw [show min k2 5 = k2 by omega] at hg; exact hg)
        have d5 : ¬ (5 : Int) ≤ (k2 : Int) := by omega
        have HM := Lib.hid hM
        clear hg hM
        go_wp2_with (first | ((with_reducible show wpList _ _ _ _ _ wr); refine load_gd (w := wr) (by rfl) _ rfl Gg gdt K T0 T1 false (k2 == 0) 0 (k2 : Int) (by rfl) HG.out HK.out H0.out H1.out ?_) | (go_at_call 55; refine (Enter_yes1 K T0 T1 false (k2 == 0) 0 (k2 : Int) cOmega wr HK.out H0.out H1.out (by omega) (by omega) (by decide) (by decide) ET1.out).mono ?_; rintro e u1 ⟨rfl, hLc⟩) | ((with_reducible show wpList _ _ _ _ _ u1); refine alloc_row (w := u1) rfl gdt rfl (.agg (ga zg zg zg false false 0 0)) 52 (fun _ => by kernel_rfl) (by kernel_rfl) ?_; intro u2 hRa _ hGa hza) | ((with_reducible show wpList _ _ _ _ _ u2); refine store_vr (w := u2) rfl gdt _ _ rfl u1.heap.size gdt 52 (gcs K T0 T1 false true 0 0) (by rfl) (by rfl) hRa (gcs_one _ _ _ _ _ _ _) (gcs_len _ _ _ _ _ _ _ HK.out H0.out H1.out) gdt_i ?_; intro u3 hBb hGb hzb; have hL : Below wr.heap.size wr u3 := (below_new (below_none hLc hLc.size hGa) (by have := hLc.size; omega) hGb hLc.size); have HM3 := Lib.hid (below_more HM.out hL HM.out.size); have HG3 := Lib.hid (HG.out.next hL); have HE3 := Lib.hid (SvE.out.below HM3.out); clear hRa hGa hza hBb hGb hzb hLc hL))
        go_ret
        exact ⟨rfl, by rw [HN.out]; exact below_more SMv.out HM3.out SSv.out⟩
      · have HG := Lib.hid (show GB wr Gg gdt K T0 T1 false false 0 5 from by rw [show min k2 5 = 5 by omega, show (k2 == 0) = false by simp; omega] at hg; exact hg)
        have d5 : (5 : Int) ≤ (k2 : Int) := by omega
        have HM := Lib.hid hM
        clear hg hM
        go_wp2_with (first | ((with_reducible show wpList _ _ _ _ _ wr); refine load_gd (w := wr) (by rfl) _ rfl Gg gdt K T0 T1 false false 0 5 (by rfl) HG.out HK.out H0.out H1.out ?_) | (go_at_call 55; refine (Enter_locked1 K T0 T1 false false 0 5 cOmega wr HK.out H0.out H1.out (by decide)).mono ?_; rintro e u1 ⟨rfl, hLc⟩) | ((with_reducible show wpList _ _ _ _ _ u1); refine alloc_row (w := u1) rfl gdt rfl (.agg (ga zg zg zg false false 0 0)) 52 (fun _ => by kernel_rfl) (by kernel_rfl) ?_; intro u2 hRa _ hGa hza) | ((with_reducible show wpList _ _ _ _ _ u2); refine store_vr (w := u2) rfl gdt _ _ rfl u1.heap.size gdt 52 (gcs K T0 T1 false false 0 5) (by rfl) (by rfl) hRa (gcs_one _ _ _ _ _ _ _) (gcs_len _ _ _ _ _ _ _ HK.out H0.out H1.out) gdt_i ?_; intro u3 hBb hGb hzb; have hL : Below wr.heap.size wr u3 := (below_new (below_none hLc hLc.size hGa) (by have := hLc.size; omega) hGb hLc.size); have HM3 := Lib.hid (below_more HM.out hL HM.out.size); have HG3 := Lib.hid (HG.out.next hL); have HE3 := Lib.hid (SvE.out.below HM3.out); clear hRa hGa hza hBb hGb hzb hLc hL) | (go_at_call 27; refine (Code_any [] 9 _ u3 HE3.out rfl).mono ?_; rintro e u4 ⟨rfl, hL4⟩; have HM4 := Lib.hid (below_more HM3.out hL4 HM3.out.size); have cb := (HG3.out.next hL4).bad1 HK.out H0.out H1.out))
        go_ret
        exact ⟨rfl, by rw [HN.out]; exact below_more SMv.out HM4.out SSv.out⟩
theorem GuardFive_any (K : List UInt8) (n m : UInt8) (who : Bool) (w : World) (hE : Et w) (hk : K.length = 16) : Calls Tryd.prog 17 #[.agg (Bs K), .int .u8 (bv n), .int .u8 (bv m), .bool who] w fun e w' => e = .returned (.bool true) ∧ Below w.heap.size w w' := by
  cases who
  · exact GuardFive_0 K n m w hE hk
  · exact GuardFive_1 K n m w hE hk
end Go.Proofs.YtjbdhnmkeaogcaaDoor
set_option linter.unusedVariables false
set_option linter.unusedSimpArgs false
namespace Lk
open Go Go.RowKit
theorem eqIn_bs {P : Program} (w : World) (d : Nat) {t e : TypeId} {n : Nat} (a b : List UInt8) (hu : P.underlying t = some (.array n e)) (he : P.underlying e = some (.int .u8)) (hc : P.cellsOf e = 1) (hi : (P.info? e).isSome = true) (ha : a.length = n) (hb : b.length = n) :
    (Op.equalIn (d + 2) t (.agg (Bs a)) (.agg (Bs b))).run P w = .ok (a == b) w := by
  obtain ⟨i, hi⟩ := Option.isSome_iff_exists.1 hi
  have h := run_equalIn_array (P := P) w (d + 1) (Bs a) (Bs b) hu hi
  rw [run_eqItems_bs w d he hc a b (List.range n) (fun j hj => by have := List.mem_range.1 hj; omega)] at h
  have e : ((List.range n).all fun i => g8 a i == g8 b i) = (a == b) := by
    rw [Bool.eq_iff_iff, List.all_eq_true, beq_iff_eq]
    constructor
    · intro h
      exact same_ext (by omega) (fun i hi => by simpa using h i (List.mem_range.2 (by omega)))
    · intro h i hi; rw [h]; simp
  rw [e] at h
  exact h
theorem eqItems_step {P : Program} (w : World) (d : Nat) (e : TypeId) (c : Nat) (X Y : Array Value) (i : Nat) (is : List Nat) (x y : Value) (b : Bool) (hx : (part e X (i * c)).run P w = .ok x w) (hy : (part e Y (i * c)).run P w = .ok y w) (hq : (Op.equalIn d e x y).run P w = .ok b w) :
    (Op.eqItems d e c X Y (i :: is)).run P w = if b then (Op.eqItems d e c X Y is).run P w else .ok false w := by
  simp only [Op.eqItems, Sem.run_bind, hx, hy, hq, Result.andThen_ok]
  cases b <;> simp [Sem.run_pure]
theorem eqItems_nil {P : Program} (w : World) (d : Nat) (e : TypeId) (c : Nat) (X Y : Array Value) : (Op.eqItems d e c X Y []).run P w = .ok true w := by simp [Op.eqItems]
/-- two tags as the model holds them -/
def tgs (t0 t1 : List UInt8) : Array Value := (Bl t0 ++ Bl t1).toArray
theorem ga_tags (k t0 t1 : List UInt8) (a b : Bool) (m n : Int) (hk : k.length = 16) (h0 : t0.length = 16) (h1 : t1.length = 16) : ((gcs k t0 t1 a b m n).drop 16).take 32 = Bl t0 ++ Bl t1 := by
  unfold gcs
  rw [List.drop_left' (by rw [Bl_len, hk]), ← List.append_assoc, List.take_left' (by rw [List.length_append, Bl_len, Bl_len, h0, h1])]
end Lk
namespace Go.Proofs.YtjbdhnmkeaogcaaDoor
open Go.RowKit Lk
def t16 : Nat := 41
theorem hu_t16 : Tryd.prog.underlying t16 = some (.array 16 u8t) := by kernel_rfl
theorem part_tag (w : World) (A B : List Value) (t : List UInt8) (o : Nat) (ho : o = A.length) (ht : t.length = 16) : (part t16 ((A ++ (Bl t ++ B)).toArray) o).run Tryd.prog w = .ok (.agg (Bs t)) w := by
  subst ho
  have hs : (sizeOf t16 : Sem Nat).run Tryd.prog w = .ok 16 w := by kernel_rfl
  simp [part, isAgg, run_underlying hu_t16, hs]
  apply Array.ext'
  simp [Bs, Bl, ht]
theorem eqIn_tags (w : World) (d : Nat) (t0 t1 s0 s1 : List UInt8) (h0 : t0.length = 16) (h1 : t1.length = 16) (g0 : s0.length = 16) (g1 : s1.length = 16) :
    (Op.equalIn (d + 3) 76 (.agg (tgs t0 t1)) (.agg (tgs s0 s1))).run Tryd.prog w = .ok (t0 == s0 && t1 == s1) w := by
  have hu : Tryd.prog.underlying 76 = some (.array 2 t16) := by kernel_rfl
  have hii : (Tryd.prog.info? t16).isSome = true := by kernel_rfl
  obtain ⟨i, hi⟩ := Option.isSome_iff_exists.1 hii
  have h := run_equalIn_array (P := Tryd.prog) w (d + 2) (tgs t0 t1) (tgs s0 s1) hu hi
  rw [h]
  have hc : Tryd.prog.cellsOf t16 = 16 := by kernel_rfl
  have p0 : ∀ a b : List UInt8, a.length = 16 → (part t16 (tgs a b) 0).run Tryd.prog w = .ok (.agg (Bs a)) w := fun a b ha => part_tag w [] (Bl b) a 0 rfl ha
  have p1 : ∀ a b : List UInt8, a.length = 16 → b.length = 16 → (part t16 (tgs a b) 16).run Tryd.prog w = .ok (.agg (Bs b)) w := fun a b ha hb => by
    have := part_tag w (Bl a) [] b 16 (by rw [Bl_len, ha]) hb
    rw [List.append_nil] at this
    exact this
  have q : ∀ a b : List UInt8, a.length = 16 → b.length = 16 → (Op.equalIn (d + 2) t16 (.agg (Bs a)) (.agg (Bs b))).run Tryd.prog w = .ok (a == b) w := fun a b ha hb => eqIn_bs w d a b hu_t16 (by kernel_rfl) (by kernel_rfl) (by kernel_rfl) ha hb
  rw [show List.range 2 = [0, 1] from rfl, hc]
  clear h hi hc hu
  rw [eqItems_step w (d + 2) t16 16 (tgs t0 t1) (tgs s0 s1) 0 [1] _ _ _ (p0 t0 t1 h0) (p0 s0 s1 g0) (q t0 s0 h0 g0)]
  rw [eqItems_step w (d + 2) t16 16 (tgs t0 t1) (tgs s0 s1) 1 [] _ _ _ (p1 t0 t1 h0 h1) (p1 s0 s1 g0 g1) (q t1 s1 h1 g1), eqItems_nil]
  cases t0 == s0 <;> cases t1 == s1 <;> rfl
theorem eql_tags (w : World) (t0 t1 s0 s1 : List UInt8) (h0 : t0.length = 16) (h1 : t1.length = 16) (g0 : s0.length = 16) (g1 : s1.length = 16) :
    (binOp .eql 76 (.agg (tgs t0 t1)) (.agg (tgs s0 s1))).run Tryd.prog w = .ok (.bool (t0 == s0 && t1 == s1)) w := by
  have h : (Op.equalIn 10000 76 (.agg (tgs t0 t1)) (.agg (tgs s0 s1))).run Tryd.prog w = .ok (t0 == s0 && t1 == s1) w := eqIn_tags w 9997 t0 t1 s0 s1 h0 h1 g0 g1
  simp [binOp, Op.equal, Op.maxDepth, h]
end Go.Proofs.YtjbdhnmkeaogcaaDoor
