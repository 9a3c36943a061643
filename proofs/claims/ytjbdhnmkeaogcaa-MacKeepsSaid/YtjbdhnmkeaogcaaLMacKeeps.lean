/- MacKeeps: what is handed in stays; what is answered is new memory. -/
import Derived.Test.YtjbdhnmkeaogcaaAwk07
import Derived.Test.YtjbdhnmkeaogcaaRight07
set_option linter.unusedVariables false
set_option linter.unusedSimpArgs false
namespace Go.Proofs.Ytjbdhnmkeaogcaa
open Go.RowKit Lk
set_option maxHeartbeats 6400000 in
set_option maxRecDepth 100000 in
theorem MacKeeps_any (vk : Value) (key : List UInt8) (vt : Value) (text : List UInt8) (w : World) (h : SlB w vk key) (ht : SlB w vt text) :
    Calls Try.prog 4 #[vk, vt] w fun e w' => e = .returned (.bool true) ∧ Below w.heap.size w w' := by
  obtain ⟨N, hN⟩ : ∃ N, w.heap.size = N := ⟨_, rfl⟩
  have HN := Lib.hid hN
  have HK := Lib.hid h
  have HT := Lib.hid ht
  obtain ⟨Lk, eLk⟩ : ∃ L, key.length = L := ⟨_, rfl⟩
  obtain ⟨L, eL⟩ : ∃ L, text.length = L := ⟨_, rfl⟩
  obtain ⟨Ak, ck, rfl⟩ := h.form eLk
  obtain ⟨At, ct, rfl⟩ := ht.form eL
  have ELK := Lib.hid eLk
  have EL := Lib.hid eL
  clear h ht eLk eL
  by_cases hc : Lk ≤ 100 ∧ L ≤ 200
  rotate_left
  · have hc2 : 100 < Lk ∨ (Lk ≤ 100 ∧ 200 < L) := by omega
    clear hc
    rcases hc2 with hc2 | ⟨hc2, hc3⟩
    all_goals
      go_enter Try.func4, Try.ntmps4
      go_wp2_with fail
      refine (awake07 w).mono ?_
      rintro e w1 ⟨rfl, hL1⟩
      go_wp2_with fail
      refine (awake07 w1).mono ?_
      rintro e w2 ⟨rfl, hL2⟩
      go_wp2_with fail
      go_ret
      exact ⟨rfl, below_more hL1 hL2 hL1.size⟩
  obtain ⟨hc1, hc2⟩ := hc
  obtain ⟨k, ek⟩ : ∃ k, pright key 16 = k := ⟨_, rfl⟩
  have hkl : k.length = 16 := by rw [← ek]; exact pright_len _ _
  have hf : pfits 1 k.length = true := by rw [hkl]; rfl
  have EK := Lib.hid ek
  have HKL := Lib.hid hkl
  have HF := Lib.hid hf
  clear ek hkl hf
  go_enter Try.func4, Try.ntmps4
  have hM0 : Below N w w := Below.refl _ _
  have hs0 : N ≤ w.heap.size := by omega
  have K_0 := Lib.hid HK.out
  have T_0 := Lib.hid HT.out
  go_wp2_with fail
  refine (awake07 w).mono ?_
  rintro e w1 ⟨rfl, hL⟩
  have hM1 : Below N w w1 := below_more hM0 hL hs0
  have hs1 : N ≤ w1.heap.size := Nat.le_trans hs0 (hL).size
  have K_1 := Lib.hid (K_0.out.below hL)
  clear K_0
  have T_1 := Lib.hid (T_0.out.below hL)
  clear T_0
  clear hM0 hs0
  clear hL
  go_wp2_with fail
  refine (right07 1 16 (.inl ⟨rfl, rfl⟩) _ key w1 K_1.out).mono ?_
  rintro e w2 ⟨v, rfl, hO, hL⟩
  rw [EK.out] at hO
  obtain ⟨Ar, cr, rfl, hcr⟩ := hO.slB.formc HKL.out
  have hM2 : Below N w w2 := below_more hM1 hL hs1
  have hs2 : N ≤ w2.heap.size := Nat.le_trans hs1 (hL).size
  have K_2 := Lib.hid (K_1.out.below hL)
  clear K_1
  have T_2 := Lib.hid (T_1.out.below hL)
  clear T_1
  clear hM1 hs1
  have SK_2 := Lib.hid (hO.slB)
  clear hO hL
  clear K_2
  go_wp2_with fail
  refine (New_aes _ k w2 HF.out SK_2.out).mono ?_
  rintro e w3 ⟨q, rfl, hC, hL⟩
  obtain ⟨gq, eq⟩ : ∃ gq, q = .pointer (some ⟨gq, 0, none⟩) := by obtain ⟨gq, _, _, e, _⟩ := hC; exact ⟨gq, e⟩
  subst eq
  have hM3 : Below N w w3 := below_more hM2 hL hs2
  have hs3 : N ≤ w3.heap.size := Nat.le_trans hs2 (hL).size
  have T_3 := Lib.hid (T_2.out.below hL)
  clear T_2
  have SK_3 := Lib.hid (SK_2.out.below hL)
  clear SK_2
  clear hM2 hs2
  have C_3 := Lib.hid (hC)
  clear hC hL
  go_wp2_with (first | (at_builtin; (with_reducible show wpList _ _ _ _ _ (World.alloc w3 _)); (refine append_b hu_sl hu_u8 rfl _ _ rfl w3.heap.size _ [] (by rfl) (own_lit0 w3 _ (Nat.le_refl _)) _ text (by rfl) (T_3.out.alloc _) (by rw [EL.out]; simp; omega) (by simp) ?_); intro vWas w4 hOWas hGWas; have hL : Below w3.heap.size w3 w4 := below_new ((Below.refl _ _).alloc (Nat.le_refl _) _) (by simp) hGWas (Nat.le_refl _); have hO2 : Own w4 w3.heap.size vWas text := hOWas; clear hGWas hOWas; have hM4 : Below N w w4 := below_more hM3 hL hs3; have hs4 : N ≤ w4.heap.size := Nat.le_trans hs3 (hL).size; have T_4 := Lib.hid (T_3.out.below hL); clear T_3; have SK_4 := Lib.hid (SK_3.out.below hL); clear SK_3; have C_4 := Lib.hid (C_3.out.next hL); clear C_3; clear hM3 hs3; have Was_4 := Lib.hid (hO2); clear hL hO2; obtain ⟨AWas, cWas, rfl, hcWas⟩ := Was_4.out.slB.formc EL.out) | (at_builtin; (with_reducible show wpList _ _ _ _ _ (World.alloc w4 _)); (refine append_b hu_sl hu_u8 rfl _ _ rfl w4.heap.size _ [] (by rfl) (own_lit0 w4 _ (Nat.le_refl _)) _ text (by rfl) (T_4.out.alloc _) (by rw [EL.out]; simp; omega) (by simp) ?_); intro v5 u5 hO5 hG5; have hL5 : Below w4.heap.size w4 u5 := below_new ((Below.refl _ _).alloc (Nat.le_refl _) _) (by simp) hG5 (Nat.le_refl _); have hO5x : Own u5 w4.heap.size v5 text := hO5; have h5s := hL5.size; have HO5 := Lib.hid hO5x; have HL5 := Lib.hid hL5; clear hO5 hG5 hL5 hO5x) | (at_builtin; (with_reducible show wpList _ _ _ _ _ (World.alloc u5 _)); (refine append_b hu_sl hu_u8 rfl _ _ rfl w4.heap.size _ text (by rfl) (HO5.out.alloc _) _ (List.replicate 16 9) (by rfl) (lit_slB u5 (List.replicate 16 9) 16 rfl (by decide)) (by rw [EL.out]; simp; omega) (by show w4.heap.size ≤ (u5.heap.push _).size; simp; omega) ?_); intro v6 w5 hO6 hG6; have hL : Below w4.heap.size w4 w5 := below_own (HL5.out.alloc h5s _) (by show w4.heap.size ≤ (u5.heap.push _).size; simp; omega) hG6 (fun k hk => (HO5.out.lt k hk).1); clear hG6 HL5; have hM5 : Below N w w5 := below_more hM4 hL hs4; have hs5 : N ≤ w5.heap.size := Nat.le_trans hs4 (hL).size; have T_5 := Lib.hid (T_4.out.below hL); clear T_4; have SK_5 := Lib.hid (SK_4.out.below hL); clear SK_4; have C_5 := Lib.hid (C_4.out.next hL); clear C_4; have Was_5 := Lib.hid (Was_4.out.under hL); clear Was_4; clear hM4 hs4; have Rm_5 := Lib.hid (hO6); clear hL hO6; clear HO5 h5s; obtain ⟨R, eR1, eR2⟩ : ∃ R, R ≤ L + 16 ∧ L + 16 ≤ R := ⟨L + 16, Nat.le_refl _, Nat.le_refl _⟩; have hrl : (text ++ List.replicate 16 (9 : UInt8)).length = R := (by rw [List.length_append, EL.out, List.length_replicate]; omega); have HRL := Lib.hid hrl; obtain ⟨gr, cr6, er6, hgr, hgr2, _, _, hcr6⟩ := Rm_5.out.form (by rw [hrl]; omega); rw [hrl] at er6 hcr6; subst er6; have hcr7 : (L : Int) ≤ (cr6 : Int) := (by omega); have hcr8 : L ≤ cr6 := (by omega); have htk : (text ++ List.replicate 16 (9 : UInt8)).take L = text := (by rw [← EL.out]; exact List.take_left ..); have HTK := Lib.hid htk; clear hrl htk))
  have Rs_5 := Lib.hid (show SlB w5 (.slice (some ⟨gr, 0, none⟩) L cr6) text from by have h := Rm_5.out.slB.take (n := L) (by rw [HRL.out]; omega); rw [HTK.out] at h; exact h)
  have MX_5 := Lib.hid (Below.refl w5.heap.size w5)
  have HTx := Lib.hid T_5.out
  have HRsx := Lib.hid Rs_5.out
  have HWx := Lib.hid Was_5.out
  have HCx := Lib.hid C_5.out
  have HMx := Lib.hid hM5
  have HSx := Lib.hid hs5
  go_wp2_with fail
  refine (Cmac_lit 16 16 rfl _ _ _ 1 k text w5 (.inl rfl) C_5.out (Nat.le_refl _) HF.out Rs_5.out (by rw [EL.out]; omega) (by decide) (by decide)).mono ?_
  rintro e w6 ⟨v, rfl, hO, hL⟩
  have hc8 : (pcmac 1 k text).take 16 = pcmac 1 k text := List.take_of_length_le (by rw [pcmac_len 1 k _ (.inl rfl)]; decide)
  rw [hc8] at hO
  obtain ⟨gx, cx, ex, hgx, hgx2, _, _, hcx⟩ := hO.form (by rw [pcmac_len 1 k _ (.inl rfl)]; decide)
  rw [pcmac_len 1 k _ (.inl rfl), show psize 1 = 16 from rfl] at ex hcx
  subst ex
  clear hc8
  obtain ⟨x, ex⟩ : ∃ x, pcmac 1 k text = x := ⟨_, rfl⟩
  have hxl : x.length = 16 := by rw [← ex]; exact pcmac_len 1 k _ (.inl rfl)
  rw [ex] at hO
  have EX := Lib.hid ex
  have HXL := Lib.hid hxl
  clear ex hxl
  have hM6 : Below N w w6 := below_more hM5 hL hs5
  have hs6 : N ≤ w6.heap.size := Nat.le_trans hs5 (hL).size
  have T_6 := Lib.hid (T_5.out.below hL)
  clear T_5
  have SK_6 := Lib.hid (SK_5.out.below hL)
  clear SK_5
  have C_6 := Lib.hid (C_5.out.next hL)
  clear C_5
  have Was_6 := Lib.hid (Was_5.out.under hL)
  clear Was_5
  have Rm_6 := Lib.hid (Rm_5.out.under hL)
  clear Rm_5
  have Rs_6 := Lib.hid (Rs_5.out.below hL)
  clear Rs_5
  have MX_6 := Lib.hid (below_more MX_5.out hL MX_5.out.size)
  clear MX_5
  clear hM5 hs5
  have X_6 := Lib.hid (hO)
  have XS_6 := Lib.hid (hO.slB)
  clear hO hL
  have MY_6 := Lib.hid (Below.refl w6.heap.size w6)
  go_wp2_with fail
  refine (Retail_lit 8 8 rfl _ _ k text w6 SK_6.out HKL.out Rs_6.out (by rw [EL.out]; omega) (by decide) (by decide)).mono ?_
  rintro e w7 ⟨v, rfl, hO, hL⟩
  have hM7 : Below N w w7 := below_more hM6 hL hs6
  have hs7 : N ≤ w7.heap.size := Nat.le_trans hs6 (hL).size
  have T_7 := Lib.hid (T_6.out.below hL)
  clear T_6
  have SK_7 := Lib.hid (SK_6.out.below hL)
  clear SK_6
  have C_7 := Lib.hid (C_6.out.next hL)
  clear C_6
  have Was_7 := Lib.hid (Was_6.out.under hL)
  clear Was_6
  have Rm_7 := Lib.hid (Rm_6.out.under hL)
  clear Rm_6
  have Rs_7 := Lib.hid (Rs_6.out.below hL)
  clear Rs_6
  have MX_7 := Lib.hid (below_more MX_6.out hL MX_6.out.size)
  clear MX_6
  have X_7 := Lib.hid (X_6.out.under hL)
  clear X_6
  have XS_7 := Lib.hid (XS_6.out.below hL)
  clear XS_6
  have MY_7 := Lib.hid (below_more MY_6.out hL MY_6.out.size)
  clear MY_6
  clear hM6 hs6
  clear hO hL
  go_wp2_with fail
  refine (Pad_lit 8 8 rfl _ text w7 Rs_7.out (by rw [EL.out]; omega) (by decide) (by decide)).mono ?_
  rintro e w8 ⟨v, rfl, hO, hL⟩
  have hM8 : Below N w w8 := below_more hM7 hL hs7
  have hs8 : N ≤ w8.heap.size := Nat.le_trans hs7 (hL).size
  have T_8 := Lib.hid (T_7.out.below hL)
  clear T_7
  have SK_8 := Lib.hid (SK_7.out.below hL)
  clear SK_7
  have C_8 := Lib.hid (C_7.out.next hL)
  clear C_7
  have Was_8 := Lib.hid (Was_7.out.under hL)
  clear Was_7
  have Rm_8 := Lib.hid (Rm_7.out.under hL)
  clear Rm_7
  have Rs_8 := Lib.hid (Rs_7.out.below hL)
  clear Rs_7
  have MX_8 := Lib.hid (below_more MX_7.out hL MX_7.out.size)
  clear MX_7
  have X_8 := Lib.hid (X_7.out.under hL)
  clear X_7
  have XS_8 := Lib.hid (XS_7.out.below hL)
  clear XS_7
  have MY_8 := Lib.hid (below_more MY_7.out hL MY_7.out.size)
  clear MY_7
  clear hM7 hs7
  clear hO hL
  go_wp2_with fail
  go_loop [12] (fun i => ∃ j : Nat, L ≤ j ∧ j ≤ R ∧ i = .int .i64 j) (fun i => R - (intOf i).toNat)
  case atStart => exact ⟨L, by omega, by omega, rfl⟩
  case round =>
    obtain ⟨j, hj1, hj2, rfl⟩ := hrel
    by_cases hlt : j < R
    · have cj : w8.cell? ⟨gr, j, none⟩ = some (.int .u8 9) := by
        have := Rm_8.out.cell j (by rw [HRL.out]; exact hlt)
        rw [g8_right _ _ _ (by rw [EL.out]; exact hj1), show g8 (List.replicate 16 (9 : UInt8)) (j - text.length) = 9 from by unfold g8; rw [List.getD_eq_getElem?_getD, List.getElem?_replicate, if_pos (by rw [EL.out]; omega)]; rfl] at this
        exact this
      go_wp2
      go_round
      case rel => exact ⟨j + 1, by omega, by omega, by go_num⟩
      case measure => simp [intOf]; omega
    have hWB : w6.heap.size ≤ w8.heap.size := MY_8.out.size
    go_wp2_with (first | (at_builtin; (with_reducible show wpList _ _ _ _ _ (World.alloc w8 _)); (refine append_b hu_sl hu_u8 rfl _ _ rfl w8.heap.size _ [] (by rfl) (own_lit0 w8 _ (Nat.le_refl _)) _ x (by rfl) (XS_8.out.alloc _) (by rw [HXL.out]; decide) (by simp) ?_); intro vWt w9 hOWt hGWt; have hL : Below w8.heap.size w8 w9 := below_new ((Below.refl _ _).alloc (Nat.le_refl _) _) (by simp) hGWt (Nat.le_refl _); have hO2 : Own w9 w8.heap.size vWt x := hOWt; clear hGWt hOWt; have hM9 : Below N w w9 := below_more hM8 hL hs8; have hs9 : N ≤ w9.heap.size := Nat.le_trans hs8 (hL).size; have T_9 := Lib.hid (T_8.out.below hL); clear T_8; have SK_9 := Lib.hid (SK_8.out.below hL); clear SK_8; have C_9 := Lib.hid (C_8.out.next hL); clear C_8; have Was_9 := Lib.hid (Was_8.out.under hL); clear Was_8; have Rm_9 := Lib.hid (Rm_8.out.under hL); clear Rm_8; have Rs_9 := Lib.hid (Rs_8.out.below hL); clear Rs_8; have MX_9 := Lib.hid (below_more MX_8.out hL MX_8.out.size); clear MX_8; have X_9 := Lib.hid (X_8.out.under hL); clear X_8; have XS_9 := Lib.hid (XS_8.out.below hL); clear XS_8; have MY_9 := Lib.hid (below_more MY_8.out hL MY_8.out.size); clear MY_8; clear hM8 hs8; have Wt_9 := Lib.hid (hO2); clear hL hO2; obtain ⟨AWt, cWt, rfl, hcWt⟩ := Wt_9.out.slB.formc HXL.out))
    obtain ⟨u8, eu8⟩ : ∃ u, w8.heap.size = u := ⟨_, rfl⟩
    rw [eu8] at hWB
    have HU8 := Lib.hid eu8
    have HMXc := Lib.hid MX_9.out
    have HXc := Lib.hid X_9.out
    have HWc := Lib.hid (show Own w9 u8 _ x by rw [← eu8]; exact Wt_9.out)
    clear eu8
    go_loopw [14] (fun i wr => ∃ m : Nat, m ≤ 16 ∧ i = .int .i64 m ∧ Own wr w5.heap.size (.slice (some ⟨gx, 0, none⟩) 16 cx) (notTo x m) ∧ Own wr u8 (.slice AWt 16 cWt) x ∧ Below w5.heap.size w5 wr) (fun i _ => 16 - (intOf i).toNat)
    case atStart => exact ⟨0, by omega, rfl, by rw [notTo_zero]; exact HXc.out, HWc.out, HMXc.out⟩
    case round =>
      clear HXc HWc HMXc
      obtain ⟨m, hm, rfl, hX, hW, hB⟩ := hrel
      have HX := Lib.hid hX
      have HW := Lib.hid hW
      have HB := Lib.hid hB
      by_cases hlt : m < 16
      · have c1 : wr.cell? ⟨gx, m, none⟩ = some (.int .u8 (bv (g8 x m))) := by
          have := hX.cell m (by rw [notTo_len, HXL.out]; exact hlt)
          rw [notTo_at _ _ _ (by rw [HXL.out]; exact hlt), if_neg (by omega)] at this
          exact this
        have f1 := hX.free m
        have e1 : Go.bits .xor .u8 (bv (g8 x m)) 255 = bv (g8 x m ^^^ 255) := bv_xor _ 255
        have HLT := Lib.hid hlt
        clear hX hW hB
        go_wp2
        go_roundw
        case rel =>
          have hG : wr.grownBy (wr.setCell ⟨gx, m, none⟩ (.int .u8 (bv (g8 x m ^^^ 255)))) (some gx) := grown_set (grown_refl _ _) _ _
          refine ⟨m + 1, HLT.out, by go_num, ?_, HW.out.kept hG ?_, below_new HB.out HB.out.size hG hgx⟩
          · have hst := Own.stored (l := notTo x m) (cap := cx) (g := gx) (base := w5.heap.size) (w := wr) (by rw [notTo_len, HXL.out]; exact HX.out) m (g8 x m ^^^ 255)
            rw [notTo_set x m (by rw [HXL.out]; exact HLT.out), notTo_len, HXL.out] at hst
            exact hst
          · cases hv : (Value.slice AWt 16 cWt).ownBlock with
            | none => exact .inl rfl
            | some j => exact .inr (by have := (HW.out.lt j hv).1; simp; omega)
        case measure => have : m < 16 := HLT.out; simp [intOf]; omega
      clear hX hW hB
      have hM10 : Below N w wr := below_more HMx.out HB.out HSx.out
      have hs10 : N ≤ wr.heap.size := Nat.le_trans HSx.out HB.out.size
      have T_10 := Lib.hid (HTx.out.below HB.out)
      have Rs_10 := Lib.hid (HRsx.out.below HB.out)
      have Was_10 := Lib.hid (HWx.out.slB.below HB.out)
      have C_10 := Lib.hid ((HCx.out.below HB.out (Nat.le_refl _)).more HB.out.size)
      have Wt_10 := Lib.hid (HW.out.slB)
      clear HX HW HB HTx HRsx HWx HCx HMx HSx
      go_wp2_with fail
      refine (Cmac_lit 16 16 rfl _ _ _ 1 k text wr (.inl rfl) C_10.out (Nat.le_refl _) HF.out T_10.out (by rw [EL.out]; omega) (by decide) (by decide)).mono ?_
      rintro e w11 ⟨v, rfl, hO, hL⟩
      have hc8 : (pcmac 1 k text).take 16 = x := by rw [EX.out]; exact List.take_of_length_le (by rw [HXL.out]; decide)
      rw [hc8] at hO
      obtain ⟨Ay, cy, rfl⟩ := hO.slB.form HXL.out
      clear hc8
      have hM11 : Below N w w11 := below_more hM10 hL hs10
      have hs11 : N ≤ w11.heap.size := Nat.le_trans hs10 (hL).size
      have T_11 := Lib.hid (T_10.out.below hL)
      clear T_10
      have Rs_11 := Lib.hid (Rs_10.out.below hL)
      clear Rs_10
      have Was_11 := Lib.hid (Was_10.out.below hL)
      clear Was_10
      have C_11 := Lib.hid (C_10.out.next hL)
      clear C_10
      have Wt_11 := Lib.hid (Wt_10.out.below hL)
      clear Wt_10
      clear hM10 hs10
      have Y_11 := Lib.hid (hO.slB)
      clear hO hL
      go_wp2_with fail
      refine (Same_any _ _ text text w11 T_11.out Was_11.out (by rw [EL.out]; omega)).mono ?_
      rintro e w12 ⟨rfl, hD⟩
      rw [beq_self_eq_true]
      have hM12 : Below N w w12 := below_more hM11 hD.below0 hs11
      have hs12 : N ≤ w12.heap.size := Nat.le_trans hs11 (hD.below0).size
      have T_12 := Lib.hid (T_11.out.below hD.below0)
      clear T_11
      have Rs_12 := Lib.hid (Rs_11.out.below hD.below0)
      clear Rs_11
      have Was_12 := Lib.hid (Was_11.out.below hD.below0)
      clear Was_11
      have C_12 := Lib.hid (C_11.out.next hD.below0)
      clear C_11
      have Wt_12 := Lib.hid (Wt_11.out.below hD.below0)
      clear Wt_11
      have Y_12 := Lib.hid (Y_11.out.below hD.below0)
      clear Y_11
      clear hM11 hs11
      clear hD
      go_wp2_with fail
      refine (Same_any _ _ x x w12 Y_12.out Wt_12.out (by rw [HXL.out]; decide)).mono ?_
      rintro e w13 ⟨rfl, hD⟩
      rw [beq_self_eq_true]
      have hM13 : Below N w w13 := below_more hM12 hD.below0 hs12
      have hs13 : N ≤ w13.heap.size := Nat.le_trans hs12 (hD.below0).size
      have T_13 := Lib.hid (T_12.out.below hD.below0)
      clear T_12
      have Rs_13 := Lib.hid (Rs_12.out.below hD.below0)
      clear Rs_12
      have Was_13 := Lib.hid (Was_12.out.below hD.below0)
      clear Was_12
      have C_13 := Lib.hid (C_12.out.next hD.below0)
      clear C_12
      have Wt_13 := Lib.hid (Wt_12.out.below hD.below0)
      clear Wt_12
      have Y_13 := Lib.hid (Y_12.out.below hD.below0)
      clear Y_12
      clear hM12 hs12
      clear hD
      go_wp2_with fail
      refine (Same_any _ _ text text w13 Rs_13.out T_13.out (by rw [EL.out]; omega)).mono ?_
      rintro e w14 ⟨rfl, hD⟩
      rw [beq_self_eq_true]
      have hM14 : Below N w w14 := below_more hM13 hD.below0 hs13
      have hs14 : N ≤ w14.heap.size := Nat.le_trans hs13 (hD.below0).size
      have T_14 := Lib.hid (T_13.out.below hD.below0)
      clear T_13
      have Rs_14 := Lib.hid (Rs_13.out.below hD.below0)
      clear Rs_13
      have Was_14 := Lib.hid (Was_13.out.below hD.below0)
      clear Was_13
      have C_14 := Lib.hid (C_13.out.next hD.below0)
      clear C_13
      have Wt_14 := Lib.hid (Wt_13.out.below hD.below0)
      clear Wt_13
      have Y_14 := Lib.hid (Y_13.out.below hD.below0)
      clear Y_13
      clear hM13 hs13
      clear hD
      go_wp2_with fail
      go_ret
      exact ⟨rfl, by rw [HN.out]; exact hM14⟩
end Go.Proofs.Ytjbdhnmkeaogcaa
