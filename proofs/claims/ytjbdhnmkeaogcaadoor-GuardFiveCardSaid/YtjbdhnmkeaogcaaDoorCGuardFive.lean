/- For whatever key, numbers and officer the law GuardFive of the layer of guards returns true (an officer who gave another code five times is out for good, a right one ahead lets it begin anew), and its arguments read as they did; the variable errors.errorType starts as the program lays it. -/
import Derived.Test.YtjbdhnmkeaogcaaDoorKG0
import Derived.Test.YtjbdhnmkeaogcaaDoorKB0
import Derived.WalkKit
import Derived.ProofKit
import Derived.OpenShut
import Derived.ShutString
import Derived.ChangeOld
import Derived.SizedLaws
import Derived.ChangeSlices
import Derived.Test.YtjbdhnmkeaogcaaDoorRows
import Derived.Test.YtjbdhnmkeaogcaaDoorKB6
import Derived.ChangeSame
import Derived.ChangeVars
import Derived.JoinedOf
import Derived.RowKit
import Derived.RowKitTokens
import Derived.LaidLaws
import Derived.LaidHandle
import Derived.Stop.Joined
import Derived.SevenTiedAt
import Derived.Test.YtjbdhnmkeaogcaaDoorCards
import Derived.Test.YtjbdhnmkeaogcaaDoorTie
set_option linter.unusedVariables false
set_option linter.unusedSimpArgs false
namespace Lk
def cAlpha : ByteArray := ⟨#[97, 108, 112, 104, 97]⟩
def cOmega : ByteArray := ⟨#[111, 109, 101, 103, 97, 50]⟩
def cNo : ByteArray := ⟨#[110, 111]⟩
end Lk
namespace Go.Proofs.YtjbdhnmkeaogcaaDoor
open Go.RowKit Lk
set_option maxHeartbeats 12800000 in
set_option maxRecDepth 100000 in
theorem GuardFive_0 (K : List UInt8) (n m : UInt8) (w : World) (hE : Et w) (hk : K.length = 16) : Calls Tryd.prog 17 #[.agg (Bs K), .int .u8 (bv n), .int .u8 (bv m), .bool false] w fun e w' => e = .returned (.bool true) ∧ Below w.heap.size w w' := by
  obtain ⟨N, hN⟩ : ∃ N, w.heap.size = N := ⟨_, rfl⟩
  have HN := Lib.hid hN
  obtain ⟨T0, eT0⟩ : ∃ t, ptag K 0 cAlpha = t := ⟨_, rfl⟩
  obtain ⟨T1, eT1⟩ : ∃ t, ptag K 1 cOmega = t := ⟨_, rfl⟩
  have HK := Lib.hid hk
  have H0 := Lib.hid (show T0.length = 16 by rw [← eT0]; exact ptag_len _ _ _)
  have H1 := Lib.hid (show T1.length = 16 by rw [← eT1]; exact ptag_len _ _ _)
  have HNW := Lib.hid (fun (w1 : World) => GNew_yes K cAlpha cOmega w1 hk (by decide) (by decide) (by decide) (by decide))
  rw [eT0, eT1] at HNW
  have ET0 := Lib.hid eT0
  have ET1 := Lib.hid eT1
  have y0 := bv_ge n
  have y1 := bv_lt n
  generalize bv n = y at y0 y1 ⊢
  have z0 := bv_ge m
  have z1 := bv_lt m
  generalize bv m = z at z0 z1 ⊢
  obtain ⟨p, ep⟩ : ∃ p : Nat, y % 5 = (p : Int) := ⟨(y % 5).toNat, by omega⟩
  obtain ⟨q, eq⟩ : ∃ q : Nat, z % 8 = (q : Int) := ⟨(z % 8).toNat, by omega⟩
  have hp5 : p < 5 := by omega
  have hq8 : q < 8 := by omega
  clear eT0 eT1 hk
  have hM0 : Below N w w := Below.refl _ _
  have hs0 : N ≤ w.heap.size := by omega
  have E_0 := Lib.hid (hE)
  clear hE
  go_enter Tryd.func17, Tryd.ntmps17
  go_wp2_with (first | ((with_reducible show wpList _ _ _ _ _ w); refine box_blk (w := w) rfl 41 _ rfl K rfl ?_; intro u0 hA0 hG0 hz0; have hL : Below w.heap.size w u0 := below_none (Below.refl _ _) (Nat.le_refl _) hG0; rw [hN] at hA0 ⊢; clear hG0 hz0; have hM1 : Below N w u0 := below_more hM0 hL hs0; have hs1 : N ≤ u0.heap.size := Nat.le_trans hs0 (hL).size; have E_1 := Lib.hid (E_0.out.below hL); clear E_0; clear hM0 hs0; have K_1 := Lib.hid (hA0); clear hL hA0; have SMv := Lib.hid hM1; have SSv := Lib.hid hs1; have SvE := Lib.hid E_1.out; have SvK := Lib.hid K_1.out; have Mv_1 := Lib.hid (Below.refl u0.heap.size u0)) | ((with_reducible show wpList _ _ _ _ _ u0); refine load_blk (w := u0) rfl 41 _ rfl N 41 16 5 K (by rfl) K_1.out HK.out (by kernel_rfl) (by kernel_rfl) ?_) | (go_at_call 53; (with_reducible show Calls _ _ _ u0 _); refine (HNW.out u0).mono ?_; rintro e w2c ⟨rfl, hLc⟩) | ((with_reducible show wpList _ _ _ _ _ w2c); refine alloc_row (w := w2c) rfl gdt rfl (.agg (ga zg zg zg false false 0 0)) 52 (fun _ => by kernel_rfl) (by kernel_rfl) ?_; intro w2a hRa _ hGa hza) | ((with_reducible show wpList _ _ _ _ _ w2a); refine store_vr (w := w2a) rfl gdt _ _ rfl w2c.heap.size gdt 52 (gcs K T0 T1 false false 0 0) (by rfl) (by rfl) hRa (gcs_one _ _ _ _ _ _ _) (gcs_len _ _ _ _ _ _ _ HK.out H0.out H1.out) gdt_i ?_; intro w2 hBb hGb hzb; have hL : Below u0.heap.size u0 w2 := below_new (below_none hLc hLc.size hGa) (by have := hLc.size; omega) hGb hLc.size; obtain ⟨Gg, eGx⟩ : ∃ g, w2c.heap.size = g := ⟨_, rfl⟩; have hgB : GB w2 Gg gdt K T0 T1 false false 0 0 := (by rw [← eGx]; exact hBb); have hGv : u0.heap.size ≤ Gg := (by rw [← eGx]; exact hLc.size); rw [eGx]; clear hRa hGa hza hBb hGb hzb hLc eGx; have hM2 : Below N w w2 := below_more hM1 hL hs1; have hs2 : N ≤ w2.heap.size := Nat.le_trans hs1 (hL).size; have E_2 := Lib.hid (E_1.out.below hL); clear E_1; have K_2 := Lib.hid (K_1.out.under hL); clear K_1; have Mv_2 := Lib.hid (below_more Mv_1.out hL Mv_1.out.size); clear Mv_1; clear hM1 hs1; have g_2 := Lib.hid (hgB); clear hL hgB) | (go_at_call 54; (with_reducible show Calls _ _ _ w2 _); refine (awake24 w2 E_2.out).mono ?_; rintro e w3 ⟨rfl, hL⟩; have hM3 : Below N w w3 := below_more hM2 hL hs2; have hs3 : N ≤ w3.heap.size := Nat.le_trans hs2 (hL).size; have E_3 := Lib.hid (E_2.out.below hL); clear E_2; have K_3 := Lib.hid (K_2.out.under hL); clear K_2; have Mv_3 := Lib.hid (below_more Mv_2.out hL Mv_2.out.size); clear Mv_2; have g_3 := Lib.hid (g_2.out.next hL); clear g_2; clear hM2 hs2; clear hL; have HVG := Lib.hid (show u0.heap.size ≤ Gg from hGv)))
  have HG0 := Lib.hid g_3.out
  have HM0 := Lib.hid Mv_3.out
  clear hGv
  go_loopw [13] (fun i wr => ∃ k : Nat, k ≤ p ∧ i = .int .i64 k ∧ GB wr Gg gdt K T0 T1 false false (k : Int) 0 ∧ Below u0.heap.size u0 wr) (fun i _ => p - (intOf i).toNat)
  case atStart => exact ⟨0, by omega, rfl, HG0.out, HM0.out⟩
  case round =>
    clear HG0 HM0
    obtain ⟨k, hkp, rfl, hg, hM⟩ := hrel
    have HG := Lib.hid hg
    have HM := Lib.hid hM
    clear hg hM
    by_cases hlt : k < p
    · have HLT := Lib.hid hlt
      go_wp2_with (first | ((with_reducible show wpList _ _ _ _ _ wr); refine load_gd (w := wr) (by rfl) _ rfl Gg gdt K T0 T1 false false (k : Int) 0 (by rfl) HG.out HK.out H0.out H1.out ?_) | (go_at_call 55; refine (Enter_none0 K T0 T1 false false (k : Int) 0 cNo wr HK.out H0.out H1.out (by omega) (by have := HLT.out; omega) (by decide) (by decide)).mono ?_; rintro e u1 ⟨rfl, hLc⟩) | ((with_reducible show wpList _ _ _ _ _ u1); refine store_vr (w := u1) rfl gdt _ _ rfl Gg gdt 52 (gcs K T0 T1 false false ((k : Int) + 1) 0) (by rfl) (by rfl) ((HG.out.next hLc).vb.row (gcs_len _ _ _ _ _ _ _ HK.out H0.out H1.out)) (gcs_one _ _ _ _ _ _ _) (gcs_len _ _ _ _ _ _ _ HK.out H0.out H1.out) gdt_i ?_; intro u2 hBb hGb hzb; have HM2 := Lib.hid (show Below u0.heap.size u0 u2 from below_new (below_more HM.out hLc HM.out.size) (by have := hLc.size; have := HM.out.size; omega) hGb HVG.out); have HB2 := Lib.hid (show GB u2 Gg gdt K T0 T1 false false ((k : Int) + 1) 0 from hBb); clear hBb hGb hzb hLc))
      go_roundw
      case rel => exact ⟨k + 1, HLT.out, by go_num, (by have h := HB2.out; rw [show ((k + 1 : Nat) : Int) = (k : Int) + 1 from by omega]; exact h), HM2.out⟩
      case measure => have := HLT.out; simp [intOf]; omega
    have hkp2 : k = p := by omega
    subst hkp2
    have HMv2 := HM
    have hM4 : Below N w wr := below_more SMv.out HM.out SSv.out
    have hs4 : N ≤ wr.heap.size := Nat.le_trans SSv.out (HM.out).size
    have E_4 := Lib.hid (SvE.out.below HM.out)
    have K_4 := Lib.hid (SvK.out.under HM.out)
    have g_4 := Lib.hid (HG.out)
    have HV := HVG
    clear HG HM
    go_wp2_with (first | ((with_reducible show wpList _ _ _ _ _ wr); refine load_gd (w := wr) (by rfl) _ rfl Gg gdt K T0 T1 false false (k : Int) 0 (by rfl) g_4.out HK.out H0.out H1.out ?_) | (go_at_call 55; (with_reducible show Calls _ _ _ wr _); refine (Enter_yes0 K T0 T1 false false (k : Int) 0 cAlpha wr HK.out H0.out H1.out (by omega) (by omega) (by decide) (by decide) ET0.out).mono ?_; rintro e u1 ⟨rfl, hLc⟩) | ((with_reducible show wpList _ _ _ _ _ u1); refine store_vr (w := u1) rfl gdt _ _ rfl Gg gdt 52 (gcs K T0 T1 true false 0 0) (by rfl) (by rfl) ((g_4.out.next hLc).vb.row (gcs_len _ _ _ _ _ _ _ HK.out H0.out H1.out)) (gcs_one _ _ _ _ _ _ _) (gcs_len _ _ _ _ _ _ _ HK.out H0.out H1.out) gdt_i ?_; intro u2 hBb hGb hzb; have HM3 := Lib.hid (show Below u0.heap.size u0 u2 from below_new (below_more HMv2.out hLc HMv2.out.size) (by have := hLc.size; have := HMv2.out.size; omega) hGb HVG.out); have hB3 : GB u2 Gg gdt K T0 T1 true false 0 0 := hBb; have cb := hB3.bad0 HK.out H0.out H1.out; have ci := hB3.in0 HK.out H0.out H1.out; have HB3 := Lib.hid hB3; clear hBb hGb hzb hLc hB3))
    have HG3 := HB3
    clear cb ci
    obtain ⟨wz, ewz⟩ : ∃ x : World, x = u2 := ⟨_, rfl⟩
    subst ewz
    go_loopw [15] (fun i wr => ∃ k2 : Nat, k2 ≤ q ∧ i = .int .i64 k2 ∧ GB wr Gg gdt K T0 T1 (k2 == 0) false ((min k2 5 : Nat) : Int) 0 ∧ Below u0.heap.size u0 wr) (fun i _ => q - (intOf i).toNat)
    case atStart => exact ⟨0, by omega, rfl, HB3.out, HM3.out⟩
    case round =>
      clear HB3 HM3 HG3
      obtain ⟨k2, hkq, rfl, hg, hM⟩ := hrel
      by_cases hlt2 : k2 < q
      · have HLT := Lib.hid hlt2
        by_cases h5 : k2 < 5
        · have HG := Lib.hid (show GB wr Gg gdt K T0 T1 (k2 == 0) false (k2 : Int) 0 from by rw [show min k2 5 = k2 by omega] at hg; exact hg)
          have HM := Lib.hid hM
          have H5 := Lib.hid h5
          clear hg hM h5
          go_wp2_with (first | ((with_reducible show wpList _ _ _ _ _ wr); refine load_gd (w := wr) (by rfl) _ rfl Gg gdt K T0 T1 (k2 == 0) false (k2 : Int) 0 (by rfl) HG.out HK.out H0.out H1.out ?_) | (go_at_call 55; refine (Enter_none0 K T0 T1 (k2 == 0) false (k2 : Int) 0 cNo wr HK.out H0.out H1.out (by omega) (by have := H5.out; omega) (by decide) (by decide)).mono ?_; rintro e u1 ⟨rfl, hLc⟩) | ((with_reducible show wpList _ _ _ _ _ u1); refine store_vr (w := u1) rfl gdt _ _ rfl Gg gdt 52 (gcs K T0 T1 false false ((k2 : Int) + 1) 0) (by rfl) (by rfl) ((HG.out.next hLc).vb.row (gcs_len _ _ _ _ _ _ _ HK.out H0.out H1.out)) (gcs_one _ _ _ _ _ _ _) (gcs_len _ _ _ _ _ _ _ HK.out H0.out H1.out) gdt_i ?_; intro u2 hBb hGb hzb; have HM2 := Lib.hid (show Below u0.heap.size u0 u2 from below_new (below_more HM.out hLc HM.out.size) (by have := hLc.size; have := HM.out.size; omega) hGb HVG.out); have HB2 := Lib.hid (show GB u2 Gg gdt K T0 T1 false false ((k2 : Int) + 1) 0 from hBb); clear hBb hGb hzb hLc))
          go_roundw
          case rel => exact ⟨k2 + 1, HLT.out, by go_num, (by have h := HB2.out; have h5 := H5.out; rw [show min (k2 + 1) 5 = k2 + 1 by omega, show ((k2 + 1 : Nat) : Int) = (k2 : Int) + 1 from by omega, show (k2 + 1 == 0) = false from rfl]; exact h), HM2.out⟩
          case measure => have := HLT.out; simp [intOf]; omega
        · have HG := Lib.hid (show GB wr Gg gdt K T0 T1 false false 5 0 from by rw [show min k2 5 = 5 by omega, show (k2 == 0) = false by simp; omega] at hg; exact hg)
          have HM := Lib.hid hM
          have H5 := Lib.hid h5
          clear hg hM h5
          go_wp2_with (first | ((with_reducible show wpList _ _ _ _ _ wr); refine load_gd (w := wr) (by rfl) _ rfl Gg gdt K T0 T1 false false 5 0 (by rfl) HG.out HK.out H0.out H1.out ?_) | (go_at_call 55; refine (Enter_locked0 K T0 T1 false false 5 0 cNo wr HK.out H0.out H1.out (by decide)).mono ?_; rintro e u1 ⟨rfl, hLc⟩) | ((with_reducible show wpList _ _ _ _ _ u1); refine store_vr (w := u1) rfl gdt _ _ rfl Gg gdt 52 (gcs K T0 T1 false false 5 0) (by rfl) (by rfl) ((HG.out.next hLc).vb.row (gcs_len _ _ _ _ _ _ _ HK.out H0.out H1.out)) (gcs_one _ _ _ _ _ _ _) (gcs_len _ _ _ _ _ _ _ HK.out H0.out H1.out) gdt_i ?_; intro u2 hBb hGb hzb; have HM2 := Lib.hid (show Below u0.heap.size u0 u2 from below_new (below_more HM.out hLc HM.out.size) (by have := hLc.size; have := HM.out.size; omega) hGb HVG.out); have HB2 := Lib.hid (show GB u2 Gg gdt K T0 T1 false false 5 0 from hBb); clear hBb hGb hzb hLc))
          go_roundw
          case rel => exact ⟨k2 + 1, HLT.out, by go_num, (by have h := HB2.out; have h5 := H5.out; rw [show min (k2 + 1) 5 = 5 by omega, show (k2 + 1 == 0) = false from rfl]; exact h), HM2.out⟩
          case measure => have := HLT.out; simp [intOf]; omega
      have hkq2 : k2 = q := by omega
      subst hkq2
      by_cases h5 : k2 < 5
      · have HG := Lib.hid (show GB wr Gg gdt K T0 T1 (k2 == 0) false (k2 : Int) 0 from by rw [show min k2 5 = k2 by omega] at hg; exact hg)
        have d5 : ¬ (5 : Int) ≤ (k2 : Int) := by omega
        have HM := Lib.hid hM
        clear hg hM
        go_wp2_with (first | ((with_reducible show wpList _ _ _ _ _ wr); refine load_gd (w := wr) (by rfl) _ rfl Gg gdt K T0 T1 (k2 == 0) false (k2 : Int) 0 (by rfl) HG.out HK.out H0.out H1.out ?_) | (go_at_call 55; refine (Enter_yes0 K T0 T1 (k2 == 0) false (k2 : Int) 0 cAlpha wr HK.out H0.out H1.out (by omega) (by omega) (by decide) (by decide) ET0.out).mono ?_; rintro e u1 ⟨rfl, hLc⟩) | ((with_reducible show wpList _ _ _ _ _ u1); refine alloc_row (w := u1) rfl gdt rfl (.agg (ga zg zg zg false false 0 0)) 52 (fun _ => by kernel_rfl) (by kernel_rfl) ?_; intro u2 hRa _ hGa hza) | ((with_reducible show wpList _ _ _ _ _ u2); refine store_vr (w := u2) rfl gdt _ _ rfl u1.heap.size gdt 52 (gcs K T0 T1 true false 0 0) (by rfl) (by rfl) hRa (gcs_one _ _ _ _ _ _ _) (gcs_len _ _ _ _ _ _ _ HK.out H0.out H1.out) gdt_i ?_; intro u3 hBb hGb hzb; have hL : Below wr.heap.size wr u3 := (below_new (below_none hLc hLc.size hGa) (by have := hLc.size; omega) hGb hLc.size); have HM3 := Lib.hid (below_more HM.out hL HM.out.size); have HG3 := Lib.hid (HG.out.next hL); have HE3 := Lib.hid (SvE.out.below HM3.out); clear hRa hGa hza hBb hGb hzb hLc hL))
        go_ret
        exact ⟨rfl, by rw [HN.out]; exact below_more SMv.out HM3.out SSv.out⟩
      · have HG := Lib.hid (show GB wr Gg gdt K T0 T1 false false 5 0 from by rw [show min k2 5 = 5 by omega, show (k2 == 0) = false by simp; omega] at hg; exact hg)
        have d5 : (5 : Int) ≤ (k2 : Int) := by omega
        have HM := Lib.hid hM
        clear hg hM
        go_wp2_with (first | ((with_reducible show wpList _ _ _ _ _ wr); refine load_gd (w := wr) (by rfl) _ rfl Gg gdt K T0 T1 false false 5 0 (by rfl) HG.out HK.out H0.out H1.out ?_) | (go_at_call 55; refine (Enter_locked0 K T0 T1 false false 5 0 cAlpha wr HK.out H0.out H1.out (by decide)).mono ?_; rintro e u1 ⟨rfl, hLc⟩) | ((with_reducible show wpList _ _ _ _ _ u1); refine alloc_row (w := u1) rfl gdt rfl (.agg (ga zg zg zg false false 0 0)) 52 (fun _ => by kernel_rfl) (by kernel_rfl) ?_; intro u2 hRa _ hGa hza) | ((with_reducible show wpList _ _ _ _ _ u2); refine store_vr (w := u2) rfl gdt _ _ rfl u1.heap.size gdt 52 (gcs K T0 T1 false false 5 0) (by rfl) (by rfl) hRa (gcs_one _ _ _ _ _ _ _) (gcs_len _ _ _ _ _ _ _ HK.out H0.out H1.out) gdt_i ?_; intro u3 hBb hGb hzb; have hL : Below wr.heap.size wr u3 := (below_new (below_none hLc hLc.size hGa) (by have := hLc.size; omega) hGb hLc.size); have HM3 := Lib.hid (below_more HM.out hL HM.out.size); have HG3 := Lib.hid (HG.out.next hL); have HE3 := Lib.hid (SvE.out.below HM3.out); clear hRa hGa hza hBb hGb hzb hLc hL) | (go_at_call 27; refine (Code_any [] 9 _ u3 HE3.out rfl).mono ?_; rintro e u4 ⟨rfl, hL4⟩; have HM4 := Lib.hid (below_more HM3.out hL4 HM3.out.size); have cb := (HG3.out.next hL4).bad0 HK.out H0.out H1.out))
        go_ret
        exact ⟨rfl, by rw [HN.out]; exact below_more SMv.out HM4.out SSv.out⟩
set_option maxHeartbeats 12800000 in
set_option maxRecDepth 100000 in
theorem GuardFive_1 (K : List UInt8) (n m : UInt8) (w : World) (hE : Et w) (hk : K.length = 16) : Calls Tryd.prog 17 #[.agg (Bs K), .int .u8 (bv n), .int .u8 (bv m), .bool true] w fun e w' => e = .returned (.bool true) ∧ Below w.heap.size w w' := by
  obtain ⟨N, hN⟩ : ∃ N, w.heap.size = N := ⟨_, rfl⟩
  have HN := Lib.hid hN
  obtain ⟨T0, eT0⟩ : ∃ t, ptag K 0 cAlpha = t := ⟨_, rfl⟩
  obtain ⟨T1, eT1⟩ : ∃ t, ptag K 1 cOmega = t := ⟨_, rfl⟩
  have HK := Lib.hid hk
  have H0 := Lib.hid (show T0.length = 16 by rw [← eT0]; exact ptag_len _ _ _)
  have H1 := Lib.hid (show T1.length = 16 by rw [← eT1]; exact ptag_len _ _ _)
  have HNW := Lib.hid (fun (w1 : World) => GNew_yes K cAlpha cOmega w1 hk (by decide) (by decide) (by decide) (by decide))
  rw [eT0, eT1] at HNW
  have ET0 := Lib.hid eT0
  have ET1 := Lib.hid eT1
  have y0 := bv_ge n
  have y1 := bv_lt n
  generalize bv n = y at y0 y1 ⊢
  have z0 := bv_ge m
  have z1 := bv_lt m
  generalize bv m = z at z0 z1 ⊢
  obtain ⟨p, ep⟩ : ∃ p : Nat, y % 5 = (p : Int) := ⟨(y % 5).toNat, by omega⟩
  obtain ⟨q, eq⟩ : ∃ q : Nat, z % 8 = (q : Int) := ⟨(z % 8).toNat, by omega⟩
  have hp5 : p < 5 := by omega
  have hq8 : q < 8 := by omega
  clear eT0 eT1 hk
  have hM0 : Below N w w := Below.refl _ _
  have hs0 : N ≤ w.heap.size := by omega
  have E_0 := Lib.hid (hE)
  clear hE
  go_enter Tryd.func17, Tryd.ntmps17
  go_wp2_with (first | ((with_reducible show wpList _ _ _ _ _ w); refine box_blk (w := w) rfl 41 _ rfl K rfl ?_; intro u0 hA0 hG0 hz0; have hL : Below w.heap.size w u0 := below_none (Below.refl _ _) (Nat.le_refl _) hG0; rw [hN] at hA0 ⊢; clear hG0 hz0; have hM1 : Below N w u0 := below_more hM0 hL hs0; have hs1 : N ≤ u0.heap.size := Nat.le_trans hs0 (hL).size; have E_1 := Lib.hid (E_0.out.below hL); clear E_0; clear hM0 hs0; have K_1 := Lib.hid (hA0); clear hL hA0; have SMv := Lib.hid hM1; have SSv := Lib.hid hs1; have SvE := Lib.hid E_1.out; have SvK := Lib.hid K_1.out; have Mv_1 := Lib.hid (Below.refl u0.heap.size u0)) | ((with_reducible show wpList _ _ _ _ _ u0); refine load_blk (w := u0) rfl 41 _ rfl N 41 16 5 K (by rfl) K_1.out HK.out (by kernel_rfl) (by kernel_rfl) ?_) | (go_at_call 53; (with_reducible show Calls _ _ _ u0 _); refine (HNW.out u0).mono ?_; rintro e w2c ⟨rfl, hLc⟩) | ((with_reducible show wpList _ _ _ _ _ w2c); refine alloc_row (w := w2c) rfl gdt rfl (.agg (ga zg zg zg false false 0 0)) 52 (fun _ => by kernel_rfl) (by kernel_rfl) ?_; intro w2a hRa _ hGa hza) | ((with_reducible show wpList _ _ _ _ _ w2a); refine store_vr (w := w2a) rfl gdt _ _ rfl w2c.heap.size gdt 52 (gcs K T0 T1 false false 0 0) (by rfl) (by rfl) hRa (gcs_one _ _ _ _ _ _ _) (gcs_len _ _ _ _ _ _ _ HK.out H0.out H1.out) gdt_i ?_; intro w2 hBb hGb hzb; have hL : Below u0.heap.size u0 w2 := below_new (below_none hLc hLc.size hGa) (by have := hLc.size; omega) hGb hLc.size; obtain ⟨Gg, eGx⟩ : ∃ g, w2c.heap.size = g := ⟨_, rfl⟩; have hgB : GB w2 Gg gdt K T0 T1 false false 0 0 := (by rw [← eGx]; exact hBb); have hGv : u0.heap.size ≤ Gg := (by rw [← eGx]; exact hLc.size); rw [eGx]; clear hRa hGa hza hBb hGb hzb hLc eGx; have hM2 : Below N w w2 := below_more hM1 hL hs1; have hs2 : N ≤ w2.heap.size := Nat.le_trans hs1 (hL).size; have E_2 := Lib.hid (E_1.out.below hL); clear E_1; have K_2 := Lib.hid (K_1.out.under hL); clear K_1; have Mv_2 := Lib.hid (below_more Mv_1.out hL Mv_1.out.size); clear Mv_1; clear hM1 hs1; have g_2 := Lib.hid (hgB); clear hL hgB) | (go_at_call 54; (with_reducible show Calls _ _ _ w2 _); refine (awake24 w2 E_2.out).mono ?_; rintro e w3 ⟨rfl, hL⟩; have hM3 : Below N w w3 := below_more hM2 hL hs2; have hs3 : N ≤ w3.heap.size := Nat.le_trans hs2 (hL).size; have E_3 := Lib.hid (E_2.out.below hL); clear E_2; have K_3 := Lib.hid (K_2.out.under hL); clear K_2; have Mv_3 := Lib.hid (below_more Mv_2.out hL Mv_2.out.size); clear Mv_2; have g_3 := Lib.hid (g_2.out.next hL); clear g_2; clear hM2 hs2; clear hL; have HVG := Lib.hid (show u0.heap.size ≤ Gg from hGv)))
  have HG0 := Lib.hid g_3.out
  have HM0 := Lib.hid Mv_3.out
  clear hGv
  go_loopw [13] (fun i wr => ∃ k : Nat, k ≤ p ∧ i = .int .i64 k ∧ GB wr Gg gdt K T0 T1 false false 0 (k : Int) ∧ Below u0.heap.size u0 wr) (fun i _ => p - (intOf i).toNat)
  case atStart => exact ⟨0, by omega, rfl, HG0.out, HM0.out⟩
  case round =>
    clear HG0 HM0
    obtain ⟨k, hkp, rfl, hg, hM⟩ := hrel
    have HG := Lib.hid hg
    have HM := Lib.hid hM
    clear hg hM
    by_cases hlt : k < p
    · have HLT := Lib.hid hlt
      go_wp2_with (first | ((with_reducible show wpList _ _ _ _ _ wr); refine load_gd (w := wr) (by rfl) _ rfl Gg gdt K T0 T1 false false 0 (k : Int) (by rfl) HG.out HK.out H0.out H1.out ?_) | (go_at_call 55; refine (Enter_none1 K T0 T1 false false 0 (k : Int) cNo wr HK.out H0.out H1.out (by omega) (by have := HLT.out; omega) (by decide) (by decide)).mono ?_; rintro e u1 ⟨rfl, hLc⟩) | ((with_reducible show wpList _ _ _ _ _ u1); refine store_vr (w := u1) rfl gdt _ _ rfl Gg gdt 52 (gcs K T0 T1 false false 0 ((k : Int) + 1)) (by rfl) (by rfl) ((HG.out.next hLc).vb.row (gcs_len _ _ _ _ _ _ _ HK.out H0.out H1.out)) (gcs_one _ _ _ _ _ _ _) (gcs_len _ _ _ _ _ _ _ HK.out H0.out H1.out) gdt_i ?_; intro u2 hBb hGb hzb; have HM2 := Lib.hid (show Below u0.heap.size u0 u2 from below_new (below_more HM.out hLc HM.out.size) (by have := hLc.size; have := HM.out.size; omega) hGb HVG.out); have HB2 := Lib.hid (show GB u2 Gg gdt K T0 T1 false false 0 ((k : Int) + 1) from hBb); clear hBb hGb hzb hLc))
      go_roundw
      case rel => exact ⟨k + 1, HLT.out, by go_num, (by have h := HB2.out; rw [show ((k + 1 : Nat) : Int) = (k : Int) + 1 from by omega]; exact h), HM2.out⟩
      case measure => have := HLT.out; simp [intOf]; omega
    have hkp2 : k = p := by omega
    subst hkp2
    have HMv2 := HM
    have hM4 : Below N w wr := below_more SMv.out HM.out SSv.out
    have hs4 : N ≤ wr.heap.size := Nat.le_trans SSv.out (HM.out).size
    have E_4 := Lib.hid (SvE.out.below HM.out)
    have K_4 := Lib.hid (SvK.out.under HM.out)
    have g_4 := Lib.hid (HG.out)
    have HV := HVG
    clear HG HM
    go_wp2_with (first | ((with_reducible show wpList _ _ _ _ _ wr); refine load_gd (w := wr) (by rfl) _ rfl Gg gdt K T0 T1 false false 0 (k : Int) (by rfl) g_4.out HK.out H0.out H1.out ?_) | (go_at_call 55; (with_reducible show Calls _ _ _ wr _); refine (Enter_yes1 K T0 T1 false false 0 (k : Int) cOmega wr HK.out H0.out H1.out (by omega) (by omega) (by decide) (by decide) ET1.out).mono ?_; rintro e u1 ⟨rfl, hLc⟩) | ((with_reducible show wpList _ _ _ _ _ u1); refine store_vr (w := u1) rfl gdt _ _ rfl Gg gdt 52 (gcs K T0 T1 false true 0 0) (by rfl) (by rfl) ((g_4.out.next hLc).vb.row (gcs_len _ _ _ _ _ _ _ HK.out H0.out H1.out)) (gcs_one _ _ _ _ _ _ _) (gcs_len _ _ _ _ _ _ _ HK.out H0.out H1.out) gdt_i ?_; intro u2 hBb hGb hzb; have HM3 := Lib.hid (show Below u0.heap.size u0 u2 from below_new (below_more HMv2.out hLc HMv2.out.size) (by have := hLc.size; have := HMv2.out.size; omega) hGb HVG.out); have hB3 : GB u2 Gg gdt K T0 T1 false true 0 0 := hBb; have cb := hB3.bad1 HK.out H0.out H1.out; have ci := hB3.in1 HK.out H0.out H1.out; have HB3 := Lib.hid hB3; clear hBb hGb hzb hLc hB3))
    have HG3 := HB3
    clear cb ci
    obtain ⟨wz, ewz⟩ : ∃ x : World, x = u2 := ⟨_, rfl⟩
    subst ewz
    go_loopw [15] (fun i wr => ∃ k2 : Nat, k2 ≤ q ∧ i = .int .i64 k2 ∧ GB wr Gg gdt K T0 T1 false (k2 == 0) 0 ((min k2 5 : Nat) : Int) ∧ Below u0.heap.size u0 wr) (fun i _ => q - (intOf i).toNat)
    case atStart => exact ⟨0, by omega, rfl, HB3.out, HM3.out⟩
    case round =>
      clear HB3 HM3 HG3
      obtain ⟨k2, hkq, rfl, hg, hM⟩ := hrel
      by_cases hlt2 : k2 < q
      · have HLT := Lib.hid hlt2
        by_cases h5 : k2 < 5
        · have HG := Lib.hid (show GB wr Gg gdt K T0 T1 false (k2 == 0) 0 (k2 : Int) from by rw [show min k2 5 = k2 by omega] at hg; exact hg)
          have HM := Lib.hid hM
          have H5 := Lib.hid h5
          clear hg hM h5
          go_wp2_with (first | ((with_reducible show wpList _ _ _ _ _ wr); refine load_gd (w := wr) (by rfl) _ rfl Gg gdt K T0 T1 false (k2 == 0) 0 (k2 : Int) (by rfl) HG.out HK.out H0.out H1.out ?_) | (go_at_call 55; refine (Enter_none1 K T0 T1 false (k2 == 0) 0 (k2 : Int) cNo wr HK.out H0.out H1.out (by omega) (by have := H5.out; omega) (by decide) (by decide)).mono ?_; rintro e u1 ⟨rfl, hLc⟩) | ((with_reducible show wpList _ _ _ _ _ u1); refine store_vr (w := u1) rfl gdt _ _ rfl Gg gdt 52 (gcs K T0 T1 false false 0 ((k2 : Int) + 1)) (by rfl) (by rfl) ((HG.out.next hLc).vb.row (gcs_len _ _ _ _ _ _ _ HK.out H0.out H1.out)) (gcs_one _ _ _ _ _ _ _) (gcs_len _ _ _ _ _ _ _ HK.out H0.out H1.out) gdt_i ?_; intro u2 hBb hGb hzb; have HM2 := Lib.hid (show Below u0.heap.size u0 u2 from below_new (below_more HM.out hLc HM.out.size) (by have := hLc.size; have := HM.out.size; omega) hGb HVG.out); have HB2 := Lib.hid (show GB u2 Gg gdt K T0 T1 false false 0 ((k2 : Int) + 1) from hBb); clear hBb hGb hzb hLc))
          go_roundw
          case rel => exact ⟨k2 + 1, HLT.out, by go_num, (by have h := HB2.out; have h5 := H5.out; rw [show min (k2 + 1) 5 = k2 + 1 by omega, show ((k2 + 1 : Nat) : Int) = (k2 : Int) + 1 from by omega, show (k2 + 1 == 0) = false from rfl]; exact h), HM2.out⟩
          case measure => have := HLT.out; simp [intOf]; omega
        · have HG := Lib.hid (show GB wr Gg gdt K T0 T1 false false 0 5 from by rw [show min k2 5 = 5 by omega, show (k2 == 0) = false by simp; omega] at hg; exact hg)
          have HM := Lib.hid hM
          have H5 := Lib.hid h5
          clear hg hM h5
          go_wp2_with (first | ((with_reducible show wpList _ _ _ _ _ wr); refine load_gd (w := wr) (by rfl) _ rfl Gg gdt K T0 T1 false false 0 5 (by rfl) HG.out HK.out H0.out H1.out ?_) | (go_at_call 55; refine (Enter_locked1 K T0 T1 false false 0 5 cNo wr HK.out H0.out H1.out (by decide)).mono ?_; rintro e u1 ⟨rfl, hLc⟩) | ((with_reducible show wpList _ _ _ _ _ u1); refine store_vr (w := u1) rfl gdt _ _ rfl Gg gdt 52 (gcs K T0 T1 false false 0 5) (by rfl) (by rfl) ((HG.out.next hLc).vb.row (gcs_len _ _ _ _ _ _ _ HK.out H0.out H1.out)) (gcs_one _ _ _ _ _ _ _) (gcs_len _ _ _ _ _ _ _ HK.out H0.out H1.out) gdt_i ?_; intro u2 hBb hGb hzb; have HM2 := Lib.hid (show Below u0.heap.size u0 u2 from below_new (below_more HM.out hLc HM.out.size) (by have := hLc.size; have := HM.out.size; omega) hGb HVG.out); have HB2 := Lib.hid (show GB u2 Gg gdt K T0 T1 false false 0 5 from hBb); clear hBb hGb hzb hLc))
          go_roundw
          case rel => exact ⟨k2 + 1, HLT.out, by go_num, (by have h := HB2.out; have h5 := H5.out; rw [show min (k2 + 1) 5 = 5 by omega, show (k2 + 1 == 0) = false from rfl]; exact h), HM2.out⟩
          case measure => have := HLT.out; simp [intOf]; omega
      have hkq2 : k2 = q := by omega
      subst hkq2
      by_cases h5 : k2 < 5
      · have HG := Lib.hid (show GB wr Gg gdt K T0 T1 false (k2 == 0) 0 (k2 : Int) from by rw [show min k2 5 = k2 by omega] at hg; exact hg)
        have d5 : ¬ (5 : Int) ≤ (k2 : Int) := by omega
        have HM := Lib.hid hM
        clear hg hM
        go_wp2_with (first | ((with_reducible show wpList _ _ _ _ _ wr); refine load_gd (w := wr) (by rfl) _ rfl Gg gdt K T0 T1 false (k2 == 0) 0 (k2 : Int) (by rfl) HG.out HK.out H0.out H1.out ?_) | (go_at_call 55; refine (Enter_yes1 K T0 T1 false (k2 == 0) 0 (k2 : Int) cOmega wr HK.out H0.out H1.out (by omega) (by omega) (by decide) (by decide) ET1.out).mono ?_; rintro e u1 ⟨rfl, hLc⟩) | ((with_reducible show wpList _ _ _ _ _ u1); refine alloc_row (w := u1) rfl gdt rfl (.agg (ga zg zg zg false false 0 0)) 52 (fun _ => by kernel_rfl) (by kernel_rfl) ?_; intro u2 hRa _ hGa hza) | ((with_reducible show wpList _ _ _ _ _ u2); refine store_vr (w := u2) rfl gdt _ _ rfl u1.heap.size gdt 52 (gcs K T0 T1 false true 0 0) (by rfl) (by rfl) hRa (gcs_one _ _ _ _ _ _ _) (gcs_len _ _ _ _ _ _ _ HK.out H0.out H1.out) gdt_i ?_; intro u3 hBb hGb hzb; have hL : Below wr.heap.size wr u3 := (below_new (below_none hLc hLc.size hGa) (by have := hLc.size; omega) hGb hLc.size); have HM3 := Lib.hid (below_more HM.out hL HM.out.size); have HG3 := Lib.hid (HG.out.next hL); have HE3 := Lib.hid (SvE.out.below HM3.out); clear hRa hGa hza hBb hGb hzb hLc hL))
        go_ret
        exact ⟨rfl, by rw [HN.out]; exact below_more SMv.out HM3.out SSv.out⟩
      · have HG := Lib.hid (show GB wr Gg gdt K T0 T1 false false 0 5 from by rw [show min k2 5 = 5 by omega, show (k2 == 0) = false by simp; omega] at hg; exact hg)
        have d5 : (5 : Int) ≤ (k2 : Int) := by omega
        have HM := Lib.hid hM
        clear hg hM
        go_wp2_with (first | ((with_reducible show wpList _ _ _ _ _ wr); refine load_gd (w := wr) (by rfl) _ rfl Gg gdt K T0 T1 false false 0 5 (by rfl) HG.out HK.out H0.out H1.out ?_) | (go_at_call 55; refine (Enter_locked1 K T0 T1 false false 0 5 cOmega wr HK.out H0.out H1.out (by decide)).mono ?_; rintro e u1 ⟨rfl, hLc⟩) | ((with_reducible show wpList _ _ _ _ _ u1); refine alloc_row (w := u1) rfl gdt rfl (.agg (ga zg zg zg false false 0 0)) 52 (fun _ => by kernel_rfl) (by kernel_rfl) ?_; intro u2 hRa _ hGa hza) | ((with_reducible show wpList _ _ _ _ _ u2); refine store_vr (w := u2) rfl gdt _ _ rfl u1.heap.size gdt 52 (gcs K T0 T1 false false 0 5) (by rfl) (by rfl) hRa (gcs_one _ _ _ _ _ _ _) (gcs_len _ _ _ _ _ _ _ HK.out H0.out H1.out) gdt_i ?_; intro u3 hBb hGb hzb; have hL : Below wr.heap.size wr u3 := (below_new (below_none hLc hLc.size hGa) (by have := hLc.size; omega) hGb hLc.size); have HM3 := Lib.hid (below_more HM.out hL HM.out.size); have HG3 := Lib.hid (HG.out.next hL); have HE3 := Lib.hid (SvE.out.below HM3.out); clear hRa hGa hza hBb hGb hzb hLc hL) | (go_at_call 27; refine (Code_any [] 9 _ u3 HE3.out rfl).mono ?_; rintro e u4 ⟨rfl, hL4⟩; have HM4 := Lib.hid (below_more HM3.out hL4 HM3.out.size); have cb := (HG3.out.next hL4).bad1 HK.out H0.out H1.out))
        go_ret
        exact ⟨rfl, by rw [HN.out]; exact below_more SMv.out HM4.out SSv.out⟩
theorem GuardFive_any (K : List UInt8) (n m : UInt8) (who : Bool) (w : World) (hE : Et w) (hk : K.length = 16) : Calls Tryd.prog 17 #[.agg (Bs K), .int .u8 (bv n), .int .u8 (bv m), .bool who] w fun e w' => e = .returned (.bool true) ∧ Below w.heap.size w w' := by
  cases who
  · exact GuardFive_0 K n m w hE hk
  · exact GuardFive_1 K n m w hE hk
end Go.Proofs.YtjbdhnmkeaogcaaDoor
set_option linter.unusedVariables false
set_option linter.unusedSimpArgs false
namespace Lk
open Go Go.RowKit
/-- a slice of whole numbers as it is read -/
def IsRow (k : IntKind) (w : World) (a : Option Addr) (len cap : Nat) (zs : List Int) : Prop :=
  (a = none ∧ len = 0 ∧ cap = 0 ∧ zs = []) ∨
  ∃ x, a = some x ∧ len ≤ cap ∧ cap ≤ maxLen ∧ zs.length = cap ∧ (∀ i, i < zs.length → w.cell? (x.add i) = some (.int k (zs.getD i 0))) ∧ ∀ n ∈ zs, (Lit.int k n).wf = true
theorem u8_of_wf {n : Int} (h : (Lit.int .u8 n).wf = true) : n = bv (UInt8.ofNat n.toNat) := by
  obtain ⟨a, rfl⟩ := open_u8 h
  unfold bv
  simp
theorem slB_of_row {w : World} {a : Option Addr} {len cap : Nat} {zs : List Int} (h : IsRow .u8 w a len cap zs) : ∃ l : List UInt8, l.length = len ∧ SlB w (.slice a len cap) l := by
  rcases h with ⟨rfl, rfl, rfl, rfl⟩ | ⟨x, rfl, h1, h2, h3, h4, h5⟩
  · exact ⟨[], rfl, none, 0, rfl, fun _ => rfl, Nat.le_refl _, Nat.zero_le _, fun h => by omega⟩
  · have hl : ((zs.take len).map fun z => UInt8.ofNat z.toNat).length = len := by simp; omega
    refine ⟨(zs.take len).map fun z => UInt8.ofNat z.toNat, hl, some x, cap, by rw [hl], fun h => (by cases h), by rw [hl]; exact h1, h2, fun hc => ?_⟩
    have hx : x.spot = none := by
      have := h4 0 (by omega)
      have e : x.add 0 = x := by simp [Addr.add]
      rw [e] at this
      unfold World.cell? at this
      split at this
      · split at this
        · cases this
        · rename_i hs; simpa using hs
      · cases this
    obtain ⟨g, o, s⟩ := x
    cases hx
    refine ⟨g, o, rfl, fun k hk => ?_⟩
    rw [hl] at hk
    have hc := h4 k (by omega)
    have ea : (⟨g, o, none⟩ : Addr).add k = ⟨g, o + k, none⟩ := by unfold Addr.add; split <;> simp_all
    rw [ea] at hc
    rw [hc]
    have hm : zs.getD k 0 ∈ zs := by
      have : k < zs.length := by omega
      simp [this]
    have := u8_of_wf (h5 _ hm)
    have e : g8 ((zs.take len).map fun z => UInt8.ofNat z.toNat) k = UInt8.ofNat (zs.getD k 0).toNat := by
      unfold g8
      have : k < zs.length := by omega
      simp [List.getElem?_take, hk, this]
    rw [e, ← this]
section
variable {P : Program} {H : Type} {enc : TypeId × Value → H}
theorem open_slice_u8 {t e : TypeId} {W : World} {a : Option Addr} {len cap : Nat} {d : DataW H} {ps : List MemPlace} (ht : P.underlying t = some (.slice e)) (he : P.underlying e = some (.int .u8)) (hc : P.cellsOf e = 1)
    (h : DataW.Trod enc P W 0 (fun _ => true) true t (.slice a len cap) d ps) : ∃ l : List UInt8, l.length = len ∧ SlB W (.slice a len cap) l := by
  obtain ⟨zs, hz⟩ : ∃ zs, IsRow .u8 W a len cap zs := by
    obtain ⟨fuel, hf⟩ := h
    rcases Go.ChangeShapes.open_ints ht he hc hf with ⟨hcs, _⟩ | ⟨x, l, c, zs, hcs, _, hl, hm, hz, _, hcell, hwz⟩
    · simp [Value.cells] at hcs
      obtain ⟨rfl, rfl, rfl⟩ := hcs
      exact ⟨[], .inl ⟨rfl, rfl, rfl, rfl⟩⟩
    · simp [Value.cells] at hcs
      obtain ⟨rfl, rfl, rfl⟩ := hcs
      exact ⟨zs, .inr ⟨_, rfl, hl, hm, by simpa using hz, hcell, hwz⟩⟩
  exact slB_of_row hz
/-- an array of bytes -/
theorem open_arr_u8 {t e n : Nat} {W : World} {r : Reach} {base : Nat} {v : Value} (ht : P.underlying t = some (.array n e)) (he : P.underlying e = some (.int .u8)) (hc : P.cellsOf t = n) (hct : P.cellTypes P.depth t = some (List.replicate n e)) (hn : 0 < n)
    (h : Value.okWide P W r base t v) : ∃ l : List UInt8, l.length = n ∧ v = .agg (Bs l) := by
  simp only [Value.okWide, ht] at h
  obtain ⟨cs, rfl, hsz, ts, hts, _, hcell⟩ := h
  rw [hct] at hts
  cases hts
  rw [hc] at hsz
  refine ⟨cs.toList.map fun v => match v with | .int _ z => UInt8.ofNat z.toNat | _ => 0, by simp [hsz], ?_⟩
  congr 1
  apply Array.ext
  · simp [Bs]
  · intro i h1 h2
    obtain ⟨u, hu, hok⟩ := hcell i cs[i] (by simp [h1])
    have hue : u = e := by
      rw [List.getElem?_replicate] at hu
      split at hu
      · cases hu; rfl
      · cases hu
    subst hue
    simp only [Cell.okWide, he] at hok
    simp only [Bs, List.map_map, List.getElem_toArray, List.getElem_map, Function.comp_apply, Array.getElem_toList]
    cases hv : cs[i] with
    | int k z =>
      rw [hv] at hok
      simp only [Cell.ok, he] at hok
      obtain ⟨rfl, hw⟩ := hok
      have hw' : (Lit.int .u8 z).wf = true := by
        unfold Lit.wf
        rw [Bool.and_eq_true]
        exact ⟨decide_eq_true hw.1, decide_eq_true hw.2⟩
      simp only [← u8_of_wf hw']
    | _ => rw [hv] at hok; simp [Cell.ok, he] at hok
end
end Lk
set_option linter.unusedVariables false
namespace Go.Proofs.YtjbdhnmkeaogcaaDoor
open Go.ChangeShapes Go.WideShapes Go.RowKit
theorem ownKnobNone : ownKnob Tryd.prog.godebug = none := by kernel_rfl
theorem laidOutAll : laidOutB Tryd.prog = true := by kernel_rfl
theorem fct_laid : laidOutB Tryd.checked.prog = true := by kernel_rfl
theorem fct_maps : mapsRowed Tryd.checked.prog = true := by kernel_rfl
theorem fct_main : Tryd.pinned.checked.prog.mainIs = some (true, "8650a698aaa6e7940681561f98863e190d5ec889b7f6ab40edacde75e00aa3ea".toList) := by kernel_rfl
theorem fct_looks : true = Tryd.pinned.checked.prog.looks [] := by kernel_rfl
def laidList : List (String × DataW Unit) := [("errors.errorType", Rows.laid_errors_errorType)]
theorem et_g : Tryd.prog.globalNamed "errors.errorType" = some 0 := by kernel_rfl
theorem et_rt : (Tryd.prog.cutTypes.find? (·.1 == "internal/reflectlite.rtype")).map (·.2) = some 171 := by kernel_rfl
theorem et_row : ((List.range 242).filter fun t => Tryd.prog.rowNamed t [101, 114, 114, 111, 114]) = [29] := by kernel_rfl
theorem et_size : Tryd.prog.types.size = 242 := by kernel_rfl
theorem handle_of_laid {W : World} (h : laidMetH Tryd.prog laidList W) : Et W := by
  have h' : laidMet Tryd.prog [] W ∧ handlesMet Tryd.prog laidList W := h
  obtain ⟨name, u, ty, e1, e2, e3, e4, e5⟩ := h'.2 _ (List.mem_singleton.2 rfl)
  have en : name = [101, 114, 114, 111, 114] := (Option.some.inj e1).symm
  subst en
  obtain rfl := Option.some.inj (et_rt.symm.trans e2)
  have hm : ty ∈ (List.range 242).filter fun t => Tryd.prog.rowNamed t [101, 114, 114, 111, 114] := List.mem_filter.2 ⟨List.mem_range.2 (by rw [← et_size]; exact e3), e4⟩
  rw [et_row] at hm
  obtain rfl := List.mem_singleton.1 hm
  have hh : typeHandle Tryd.prog 29 = .pointer (some ⟨1, 29, none⟩) := by kernel_rfl
  rw [hh] at e5
  have := World.var?_cell et_g e5 0
  unfold Et hnd
  simpa using this
noncomputable def laidWorld (os : Os) : World :=
  let w0 := World.holding Tryd.prog os ⟨#[], #[], []⟩
  { w0 with heap := w0.heap.modify 0 fun
      | .cells _ t frozen => .cells #[.iface 171 (.agg #[.pointer (some ⟨1, 29, none⟩)])] t frozen
      | o => o }
theorem laidWorld_met (os : Os) (args : Array Value) : laidMetH Tryd.prog laidList ((laidWorld os).forCall (fun _ _ => 0) ⟨#[], args, []⟩).memory :=
  laidMetH_of_parts (laidMet_nil _ _) (by kernel_rfl)
end Go.Proofs.YtjbdhnmkeaogcaaDoor
namespace Go.Proofs.YtjbdhnmkeaogcaaDoor.guardFive
open Go.ChangeShapes Go.WideShapes Go.ChangeAt Go.RowKit Lk
open Go.ChangeMaps (open_string shut_string)
set_option linter.unusedVariables false
set_option linter.unusedSimpArgs false
set_option maxRecDepth 100000 in
theorem lifted (os : Os) (started : os.Started) (H : Type) (enc : TypeId × Value → H) :
    ReturnsInHanded {} Tryd.checked os 17 .any (fun w args => (Rows.guardFiveSpec.pre enc Tryd.prog Tryd.f17 [] false w args ∧ laidMetH Tryd.prog laidList w) ∧ sizedMet enc Tryd.prog Tryd.f17 (OpenSpec.ofChange Rows.guardFiveSpec) false w args)
      (Rows.guardFiveSpec.post enc Tryd.prog Tryd.f17 false true false false) := by
  refine returnsInHanded_of_change_and (C := Tryd.checked) (X := fun w _ => laidMetH Tryd.prog laidList w) (fun _ _ _ hh h => h.of_heap hh) ownKnobNone started (by kernel_rfl) Tryd.func17
    (ChangeSpec.witness_at (enc := enc) (C := Tryd.checked) (os := os) (X := fun w _ => laidMetH Tryd.prog laidList w) false (laidWorld os) #[.agg #[.int .u8 0, .int .u8 0, .int .u8 0, .int .u8 0, .int .u8 0, .int .u8 0, .int .u8 0, .int .u8 0, .int .u8 0, .int .u8 0, .int .u8 0, .int .u8 0, .int .u8 0, .int .u8 0, .int .u8 0, .int .u8 0], .int .u8 0, .int .u8 0, .bool false] 8 rfl (by kernel_rfl) (by kernel_rfl) (by kernel_rfl) (by kernel_rfl) (by kernel_rfl) (laidWorld_met os _)) ?_
  intro W base args ds gs before hval0 hW _ _ hLd _
  have hval : ∀ (j : Nat) t v, Tryd.f17.params[j]? = some t → args[j]? = some v → Value.okWide Tryd.prog W .any base t v := hval0
  have hW' := hW
  obtain ⟨p, q, hA0, hV, rfl, hfz, hnd⟩ := hW
  have hA : DataW.TrodAll enc Tryd.prog W 0 (fun _ => true) true Tryd.f17.params.toList args.toList ds p := hA0
  have hEt : Et W := handle_of_laid hLd
  rw [Tryd.params17] at hA hval
  obtain ⟨v0, vs0, d0, ds0, p0, q0, hargs, rfl, rfl, h0, r0⟩ := trodAll_cons hA
  obtain ⟨v1, vs1, d1, ds1, p1, q1, rfl, rfl, rfl, h1, r1⟩ := trodAll_cons r0
  obtain ⟨v2, vs2, d2, ds2, p2, q2, rfl, rfl, rfl, h2, r2⟩ := trodAll_cons r1
  obtain ⟨v3, vs3, d3, ds3, p3, q3, rfl, rfl, rfl, h3, r3⟩ := trodAll_cons r2
  obtain ⟨rfl, rfl, rfl⟩ := trodAll_nil r3
  obtain rfl : args = #[v0, v1, v2, v3] := by cases args; simp_all
  obtain ⟨rfl, rfl⟩ := trodVars_none hV
  have k0 := h0
  have lt0 : ∀ x ∈ p0, x.block < W.heap.size := by obtain ⟨m, hm⟩ := k0; exact DataW.trod_lt m _ _ _ hm
  obtain ⟨l0, hl0, rfl⟩ := open_arr_u8 Tryd.underlying41 Tryd.underlying5 (by kernel_rfl) (by kernel_rfl) (by decide) (hval 0 41 v0 rfl rfl)
  have k1 := h1
  have lt1 : ∀ x ∈ p1, x.block < W.heap.size := by obtain ⟨m, hm⟩ := k1; exact DataW.trod_lt m _ _ _ hm
  obtain ⟨a1, rfl, rfl, rfl, w1⟩ := open_int Tryd.underlying5 (hval 1 5 v1 rfl rfl) h1
  obtain ⟨b1, rfl⟩ := Lk.open_u8 w1
  have k2 := h2
  have lt2 : ∀ x ∈ p2, x.block < W.heap.size := by obtain ⟨m, hm⟩ := k2; exact DataW.trod_lt m _ _ _ hm
  obtain ⟨a2, rfl, rfl, rfl, w2⟩ := open_int Tryd.underlying5 (hval 2 5 v2 rfl rfl) h2
  obtain ⟨b2, rfl⟩ := Lk.open_u8 w2
  have k3 := h3
  have lt3 : ∀ x ∈ p3, x.block < W.heap.size := by obtain ⟨m, hm⟩ := k3; exact DataW.trod_lt m _ _ _ hm
  obtain ⟨a3, rfl, rfl, rfl⟩ := open_bool Tryd.underlying4 (hval 3 4 v3 rfl rfl) h3
  clear hA0 hval0
  refine (GuardFive_any l0 b1 b2 a3 W hEt hl0).mono fun e W' ⟨he, bel⟩ => ?_
  subst he
  exact ⟨_, rfl, _, _, _, [], _, [], hW', trodAll_mk1 (shut_bool Tryd.underlying4 _), (trodAll_cons_mk (Below.trod laidOutAll (by kernel_rfl) (of_decide_eq_true (by kernel_rfl)) k0 bel lt0) (trodAll_cons_mk (Below.trod laidOutAll (by kernel_rfl) (of_decide_eq_true (by kernel_rfl)) k1 bel lt1) (trodAll_cons_mk (Below.trod laidOutAll (by kernel_rfl) (of_decide_eq_true (by kernel_rfl)) k2 bel lt2) (trodAll_cons_mk (Below.trod laidOutAll (by kernel_rfl) (of_decide_eq_true (by kernel_rfl)) k3 bel lt3) trodAll_mk0)))), rfl, bel.frame _, fun h => by cases h⟩
set_option maxHeartbeats 8000000 in
theorem closed : joinedFacts Tryd.checked.prog 17 Tryd.f17 Rows.guardFiveSpec Rows.guardFiveRow = true := by
  unfold joinedFacts
  simp only [Bool.and_eq_true]
  repeat' apply And.intro
  all_goals first | with_reducible exact fct_laid | with_reducible exact fct_maps | as_aux_lemma => kernel_rfl
theorem named_f : Tryd.prog.funcNamed "lockbox/lockboxlaw24.GuardFive" = some 17 := by kernel_rfl
theorem over : Rows.GuardFiveSaid :=
  OpenClaim.holds_of_wide 17 Tryd.f17 rfl rfl rfl rfl rfl rfl rfl ⟨rfl, rfl, rfl, rfl, rfl⟩ rfl rfl rfl rfl rfl named_f Tryd.func17 closed
    (of_decide_eq_true (by kernel_rfl)) (by unfold Func.isWrapper; first | (rw [if_pos (by decide +kernel)]; kernel_rfl) | (rw [if_neg (by decide +kernel)]; exact ⟨rfl, rfl⟩))
    (fun os started H enc _ => lifted os started H enc)
theorem params_ok (j : Nat) (t : TypeId) (ht : Tryd.f17.params[j]? = some t) : Tryd.prog.wantsStandIn t = false := by
  rw [Tryd.params17] at ht
  have hm : t ∈ #[41, 5, 5, 4] := Array.mem_of_getElem? ht
  simp only [List.mem_toArray, List.mem_cons, List.not_mem_nil, or_false] at hm
  rcases hm with rfl | rfl | rfl | rfl
  · show Tryd.prog.wantsStandIn 41 = false
    kernel_rfl
  · show Tryd.prog.wantsStandIn 5 = false
    kernel_rfl
  · show Tryd.prog.wantsStandIn 5 = false
    kernel_rfl
  · show Tryd.prog.wantsStandIn 4 = false
    kernel_rfl
theorem wf_text : Rows.guardFiveRow.wfByText (OpenSpec.ofChange Rows.guardFiveSpec) = true := by kernel_rfl
theorem goes_no : false = Rows.guardFiveRow.goesBy Tryd.pinned.checked.prog := by kernel_rfl
theorem card_holds : Rows.GuardFiveCardSaid :=
  Claim7.holds_tied_plain_at .later [] [.handle] true (true, "8650a698aaa6e7940681561f98863e190d5ec889b7f6ab40edacde75e00aa3ea") true
    over (fun _ h => by cases h) wf_text (fun _ h => by cases h) guardFive_row_tie rfl ⟨rfl, rfl⟩ fct_main rfl
    (fun f fn hf hfn => by
      obtain rfl : f = 17 := Option.some.inj (named_f.symm.trans hf) |>.symm
      obtain rfl : fn = Tryd.f17 := (Option.some.inj (Tryd.func17.symm.trans hfn)).symm
      exact ⟨fct_looks, fun j t ht => params_ok j t ht⟩)
    goes_no
#print axioms card_holds
end Go.Proofs.YtjbdhnmkeaogcaaDoor.guardFive
namespace Go.Proofs.YtjbdhnmkeaogcaaDoor
/-- The card, under a short name, for the claim. -/
theorem guardFive_holds : Rows.GuardFiveCardSaid := guardFive.card_holds
end Go.Proofs.YtjbdhnmkeaogcaaDoor
