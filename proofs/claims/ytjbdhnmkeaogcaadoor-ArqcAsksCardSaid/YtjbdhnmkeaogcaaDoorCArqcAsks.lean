/- For whatever key, data, place and turn the law ArqcAsks of the layer of cryptograms returns true (what is made is right, with a byte turned it isn't, nor one byte shorter), and its arguments read as they did; the variable errors.errorType starts as the program lays it. -/
import Derived.Test.YtjbdhnmkeaogcaaDoorKA0
import Derived.Test.YtjbdhnmkeaogcaaDoorKB7
import Derived.Test.YtjbdhnmkeaogcaaDoorKM0
import Derived.Test.YtjbdhnmkeaogcaaDoorKB6
import Derived.Test.YtjbdhnmkeaogcaaDoorKM2
import Derived.Test.YtjbdhnmkeaogcaaDoorKB0
import Derived.WalkKit
import Derived.ProofKit
import Derived.OpenShut
import Derived.ShutString
import Derived.ChangeOld
import Derived.SizedLaws
import Derived.ChangeSlices
import Derived.Test.YtjbdhnmkeaogcaaDoorRows
import Derived.ChangeSame
import Derived.ChangeVars
import Derived.JoinedOf
import Derived.RowKit
import Derived.RowKitTokens
import Derived.LaidLaws
import Derived.LaidHandle
import Derived.Stop.Joined
import Derived.SevenTiedAt
import Derived.Test.YtjbdhnmkeaogcaaDoorCards
import Derived.Test.YtjbdhnmkeaogcaaDoorTie
set_option linter.unusedVariables false
set_option linter.unusedSimpArgs false
namespace Lk
theorem set_same_iff (l : List UInt8) (j : Nat) (t : UInt8) (hj : j < l.length) : (l == l.set j (g8 l j ^^^ t)) = (t == 0) := by
  rw [Bool.eq_iff_iff, beq_iff_eq, beq_iff_eq]
  constructor
  · intro h
    have := congrArg (fun x => g8 x j) h
    simp only [g8, List.getD_eq_getElem?_getD, List.getElem?_set_self hj, List.getElem?_eq_getElem hj, Option.getD_some] at this
    have h2 : l[j] ^^^ l[j] = l[j] ^^^ (l[j] ^^^ t) := by rw [← this]
    rw [← UInt8.xor_assoc, UInt8.xor_self, UInt8.zero_xor] at h2
    exact h2.symm
  · rintro rfl
    apply List.ext_getElem
    · simp
    · intro i h1 h2
      rw [List.getElem_set]
      split
      · subst i; simp [g8, h1]
      · rfl
end Lk
namespace Go.Proofs.YtjbdhnmkeaogcaaDoor
open Go.RowKit Lk
set_option maxHeartbeats 3200000 in
set_option maxRecDepth 100000 in
theorem ArqcAsks_f (k : List UInt8) (vd : Value) (data : List UInt8) (at8 turn : UInt8) (w : World) (hE : Et w) (hk : k.length = 16) (hd : SlB w vd data) (hb : ¬ data.length ≤ 200) : Calls Tryd.prog 16 #[.agg (Bs k), vd, .int .u8 (bv at8), .int .u8 (bv turn)] w fun e w' => e = .returned (.bool true) ∧ Below w.heap.size w w' := by
  obtain ⟨N, hN⟩ : ∃ N, w.heap.size = N := ⟨_, rfl⟩
  have HN := Lib.hid hN
  have HK := Lib.hid hk
  have HD := Lib.hid hd
  obtain ⟨L, eL⟩ : ∃ L, data.length = L := ⟨_, rfl⟩
  obtain ⟨Ad, cd, rfl, hcd⟩ := hd.formc eL
  have EL := Lib.hid eL
  have y0 := bv_ge at8
  have y1 := bv_lt at8
  generalize bv at8 = y at y0 y1 ⊢
  clear hk hd
  rw [eL] at hb
  clear eL
  have hM0 : Below N w w := Below.refl _ _
  have hs0 : N ≤ w.heap.size := by omega
  have E_0 := Lib.hid (hE)
  have D_0 := Lib.hid (HD.out)
  clear hE HD
  go_enter Tryd.func16, Tryd.ntmps16
  go_wp2_with ((with_reducible show wpList _ _ _ _ _ w); refine box_blk (w := w) rfl 41 _ rfl k rfl ?_; intro u0 hA0 hG0 hz0; rw [hN] at hA0 hz0 ⊢)
  have hL : Below w.heap.size w u0 := below_none (Below.refl _ _) (Nat.le_refl _) hG0
  clear hG0 hz0
  have hM1 : Below N w u0 := below_more hM0 hL hs0
  have hs1 : N ≤ u0.heap.size := Nat.le_trans hs0 (hL).size
  have E_1 := Lib.hid (E_0.out.below hL)
  clear E_0
  have D_1 := Lib.hid (D_0.out.below hL)
  clear D_0
  clear hM0 hs0
  clear hL
  have K_1 := Lib.hid (hA0)
  clear hA0
  go_wp2_with fail
  refine (awake19 u0).mono ?_
  rintro e w2 ⟨rfl, hL⟩
  have hM2 : Below N w w2 := below_more hM1 hL hs1
  have hs2 : N ≤ w2.heap.size := Nat.le_trans hs1 (hL).size
  have E_2 := Lib.hid (E_1.out.below hL)
  clear E_1
  have D_2 := Lib.hid (D_1.out.below hL)
  clear D_1
  have K_2 := Lib.hid (K_1.out.under hL)
  clear K_1
  clear hM1 hs1
  clear hL
  go_wp2_with fail
  refine (awake19 w2).mono ?_
  rintro e w3 ⟨rfl, hL⟩
  have hM3 : Below N w w3 := below_more hM2 hL hs2
  have hs3 : N ≤ w3.heap.size := Nat.le_trans hs2 (hL).size
  have E_3 := Lib.hid (E_2.out.below hL)
  clear E_2
  have D_3 := Lib.hid (D_2.out.below hL)
  clear D_2
  have K_3 := Lib.hid (K_2.out.under hL)
  clear K_2
  clear hM2 hs2
  clear hL
  go_wp2_with fail
  go_ret
  exact ⟨rfl, by rw [HN.out]; exact hM3⟩
set_option maxHeartbeats 6400000 in
set_option maxRecDepth 100000 in
theorem ArqcAsks_z (k : List UInt8) (vd : Value) (data : List UInt8) (at8 turn : UInt8) (w : World) (hE : Et w) (hk : k.length = 16) (hd : SlB w vd data) (hb : data.length ≤ 200) (ht : turn = 0) : Calls Tryd.prog 16 #[.agg (Bs k), vd, .int .u8 (bv at8), .int .u8 (bv turn)] w fun e w' => e = .returned (.bool true) ∧ Below w.heap.size w w' := by
  obtain ⟨N, hN⟩ : ∃ N, w.heap.size = N := ⟨_, rfl⟩
  have HN := Lib.hid hN
  have HK := Lib.hid hk
  have HD := Lib.hid hd
  obtain ⟨L, eL⟩ : ∃ L, data.length = L := ⟨_, rfl⟩
  obtain ⟨Ad, cd, rfl, hcd⟩ := hd.formc eL
  have EL := Lib.hid eL
  have y0 := bv_ge at8
  have y1 := bv_lt at8
  generalize bv at8 = y at y0 y1 ⊢
  clear hk hd
  rw [eL] at hb
  clear eL
  obtain ⟨j, ej⟩ : ∃ j : Nat, y % 8 = (j : Int) := ⟨(y % 8).toNat, by omega⟩
  have hj8 : j < 8 := by omega
  obtain ⟨la, ela⟩ : ∃ l, pretail k data = l := ⟨_, rfl⟩
  have hlal : la.length = 8 := by rw [← ela]; exact pretail_len _ _
  have HLA := Lib.hid hlal
  have ELA := Lib.hid ela
  have hsi := set_same_iff la j turn (by rw [hlal]; exact hj8)
  obtain ⟨x0, ex0⟩ : ∃ x, g8 la j = x := ⟨_, rfl⟩
  rw [ex0] at hsi
  have e1 : Go.bits .xor .u8 (bv x0) (bv turn) = bv (x0 ^^^ turn) := bv_xor _ _
  obtain ⟨x1, ex1⟩ : ∃ x, x0 ^^^ turn = x := ⟨_, rfl⟩
  rw [ex1] at hsi e1
  rw [show (turn == 0) = true from by rw [ht]; rfl] at hsi
  have hb0 : (bv turn == 0) = true := by rw [show (0 : Int) = bv 0 from rfl, bv_eq]; rw [ht]; rfl
  generalize bv turn = tz at e1 hb0 ⊢
  have HSI := Lib.hid hsi
  have EX0 := Lib.hid ex0
  have HV7 := Lib.hid (show (la == la.take 7) = false from by rw [beq_eq_false_iff_ne]; intro h; have := congrArg List.length h; rw [List.length_take, hlal] at this; omega)
  clear hlal ela hsi ex0 ex1
  have hM0 : Below N w w := Below.refl _ _
  have hs0 : N ≤ w.heap.size := by omega
  have E_0 := Lib.hid (hE)
  have D_0 := Lib.hid (HD.out)
  clear hE HD
  go_enter Tryd.func16, Tryd.ntmps16
  go_wp2_with ((with_reducible show wpList _ _ _ _ _ w); refine box_blk (w := w) rfl 41 _ rfl k rfl ?_; intro u0 hA0 hG0 hz0; rw [hN] at hA0 hz0 ⊢)
  have hL : Below w.heap.size w u0 := below_none (Below.refl _ _) (Nat.le_refl _) hG0
  clear hG0 hz0
  have hM1 : Below N w u0 := below_more hM0 hL hs0
  have hs1 : N ≤ u0.heap.size := Nat.le_trans hs0 (hL).size
  have E_1 := Lib.hid (E_0.out.below hL)
  clear E_0
  have D_1 := Lib.hid (D_0.out.below hL)
  clear D_0
  clear hM0 hs0
  clear hL
  have K_1 := Lib.hid (hA0)
  clear hA0
  go_wp2_with fail
  refine (awake19 u0).mono ?_
  rintro e w2 ⟨rfl, hL⟩
  have hM2 : Below N w w2 := below_more hM1 hL hs1
  have hs2 : N ≤ w2.heap.size := Nat.le_trans hs1 (hL).size
  have E_2 := Lib.hid (E_1.out.below hL)
  clear E_1
  have D_2 := Lib.hid (D_1.out.below hL)
  clear D_1
  have K_2 := Lib.hid (K_1.out.under hL)
  clear K_1
  clear hM1 hs1
  clear hL
  go_wp2_with fail
  refine (Make_any _ _ k data w2 (K_2.out.slB HK.out (by decide)) HK.out D_2.out (by rw [EL.out]; omega)).mono ?_
  rintro e w3 ⟨v, rfl, hO, hL⟩
  rw [ELA.out] at hO
  obtain ⟨ga, ca, ega, _, _, _, _, hca⟩ := hO.form (by rw [HLA.out]; decide)
  rw [HLA.out] at ega hca
  subst ega
  have hM3 : Below N w w3 := below_more hM2 hL hs2
  have hs3 : N ≤ w3.heap.size := Nat.le_trans hs2 (hL).size
  have E_3 := Lib.hid (E_2.out.below hL)
  clear E_2
  have D_3 := Lib.hid (D_2.out.below hL)
  clear D_2
  have K_3 := Lib.hid (K_2.out.under hL)
  clear K_2
  clear hM2 hs2
  have C_3 := Lib.hid (hO)
  clear hL hO
  go_wp2_with fail
  refine (Verify_any _ _ _ k data la w3 (K_3.out.slB HK.out (by decide)) HK.out D_3.out (by rw [EL.out]; omega) C_3.out.slB).mono ?_
  rintro e w4 ⟨rfl, hL⟩
  rw [ELA.out, beq_self_eq_true, show sumErr true = Value.nilIface from rfl]
  have hM4 : Below N w w4 := below_more hM3 hL hs3
  have hs4 : N ≤ w4.heap.size := Nat.le_trans hs3 (hL).size
  have E_4 := Lib.hid (E_3.out.below hL)
  clear E_3
  have D_4 := Lib.hid (D_3.out.below hL)
  clear D_3
  have K_4 := Lib.hid (K_3.out.under hL)
  clear K_3
  have C_4 := Lib.hid (C_3.out.under hL)
  clear C_3
  clear hM3 hs3
  clear hL
  have CS_4 := Lib.hid (C_4.out.slB)
  have SMd := Lib.hid hM4
  have SSd := Lib.hid hs4
  have SdE := Lib.hid E_4.out
  have SdD := Lib.hid D_4.out
  have SdK := Lib.hid K_4.out
  have SdC := Lib.hid C_4.out
  have SdCS := Lib.hid CS_4.out
  have Md_4 := Lib.hid (Below.refl w4.heap.size w4)
  go_wp2_with (first | (at_builtin; (with_reducible show wpList _ _ _ _ _ (World.alloc w4 _)); (refine append_b hu_sl hu_u8 rfl _ _ rfl w4.heap.size _ [] (by rfl) (own_lit0 w4 _ (Nat.le_refl _)) _ la (by rfl) (CS_4.out.alloc _) (by rw [HLA.out]; decide) (by simp) ?_); intro vQ w5 hOQ hGQ; have hL : Below w4.heap.size w4 w5 := below_new ((Below.refl _ _).alloc (Nat.le_refl _) _) (by simp) hGQ (Nat.le_refl _); have hO2 : Own w5 w4.heap.size vQ la := hOQ; clear hGQ hOQ; have hM5 : Below N w w5 := below_more hM4 hL hs4; have hs5 : N ≤ w5.heap.size := Nat.le_trans hs4 (hL).size; have E_5 := Lib.hid (E_4.out.below hL); clear E_4; have D_5 := Lib.hid (D_4.out.below hL); clear D_4; have K_5 := Lib.hid (K_4.out.under hL); clear K_4; have C_5 := Lib.hid (C_4.out.under hL); clear C_4; have CS_5 := Lib.hid (CS_4.out.below hL); clear CS_4; have Md_5 := Lib.hid (below_more Md_4.out hL Md_4.out.size); clear Md_4; clear hM4 hs4; have Q_5 := Lib.hid (hO2); clear hL hO2; have hQf := Q_5.out.form (by rw [HLA.out]; decide); obtain ⟨gd, cdd, egd, hgd, _, _, _, _⟩ := hQf; rw [HLA.out] at egd; subst egd; have HQx := Lib.hid (show Own w5 w4.heap.size (.slice (some ⟨gd, 0, none⟩) 8 cdd) la from Q_5.out); have cx := HQx.out.cell j (by rw [HLA.out]; exact hj8); rw [EX0.out] at cx; have HMq := Lib.hid Md_5.out) | ((with_reducible show wpList _ _ _ _ _ w5); refine store_o (w := w5) rfl 5 _ _ rfl w4.heap.size gd j 8 cdd la x1 (by rfl) _ (by rfl) rfl HQx.out (by rw [HLA.out]; exact hj8) (by kernel_rfl) ?_; intro u7 hQ7 hG7 hz7; have HQ7 := Lib.hid hQ7; have HL7 := Lib.hid (show Below w4.heap.size w4 u7 from below_new HMq.out HMq.out.size hG7 hgd); clear hQ7 hG7 hz7 cx HQx HMq))
  have hM6 : Below N w u7 := below_more SMd.out HL7.out SSd.out
  have hs6 : N ≤ u7.heap.size := Nat.le_trans SSd.out (HL7.out).size
  have E_6 := Lib.hid (SdE.out.below HL7.out)
  have D_6 := Lib.hid (SdD.out.below HL7.out)
  have K_6 := Lib.hid (SdK.out.under HL7.out)
  have C_6 := Lib.hid (SdC.out.under HL7.out)
  have CS_6 := Lib.hid (SdCS.out.below HL7.out)
  have Q_6 := Lib.hid (HQ7.out)
  clear HL7 HQ7
  refine (Verify_any _ _ _ k data (la.set j x1) u7 (K_6.out.slB HK.out (by decide)) HK.out D_6.out (by rw [EL.out]; omega) Q_6.out.slB).mono ?_
  rintro e w7 ⟨rfl, hL⟩
  rw [ELA.out, HSI.out, show sumErr true = Value.nilIface from rfl]
  have hM7 : Below N w w7 := below_more hM6 hL hs6
  have hs7 : N ≤ w7.heap.size := Nat.le_trans hs6 (hL).size
  have E_7 := Lib.hid (E_6.out.below hL)
  clear E_6
  have D_7 := Lib.hid (D_6.out.below hL)
  clear D_6
  have K_7 := Lib.hid (K_6.out.under hL)
  clear K_6
  have C_7 := Lib.hid (C_6.out.under hL)
  clear C_6
  have CS_7 := Lib.hid (CS_6.out.below hL)
  clear CS_6
  have Q_7 := Lib.hid (Q_6.out.under hL)
  clear Q_6
  clear hM6 hs6
  clear hL
  go_wp2_with fail
  obtain ⟨M1, eM1⟩ : ∃ M, w7.heap.size = M := ⟨_, rfl⟩
  have HSM := Lib.hid (show ∀ w9, Below M1 w7 w9 → M1 ≤ w9.heap.size from fun w9 h => by rw [← eM1]; exact h.size)
  have HUP := Lib.hid (show ∀ w9, Below M1 w7 w9 → Below w7.heap.size w7 w9 from fun w9 h => by rw [eM1]; exact h)
  refine wp_region_cls (fun w9 => ∃ x : BSub M1 w7, w9 = x.is) (by kernel_rfl) (by kernel_rfl) (bcls_of (by rw [← eM1]; exact below_drew _)) ?_
  repeat (go_big_quiet_step (fail))
  refine quiet_enter (by kernel_rfl) 49 #[.slice (some ⟨N, 0, none⟩) 16 16, .slice Ad L cd, .slice (some ⟨ga, 0, none⟩) 7 ca] (.iface 106 (.int .i64 4)) (fun _ => by kernel_rfl) (fun w9 h9x => by have h9 := of_bcls h9x; exact (Verify_any _ _ _ k data (la.take 7) w9 ((K_7.out.under (HUP.out w9 h9)).slB HK.out (by decide)) HK.out (D_7.out.below (HUP.out w9 h9)) (by rw [EL.out]; omega) ((C_7.out.under (HUP.out w9 h9)).slB.take (n := 7) (by rw [HLA.out]; decide))).mono fun e w10 ⟨he, hl⟩ => ⟨by rw [he, ELA.out, HV7.out]; rfl, bcls_of (below_more h9 hl (HSM.out w9 h9))⟩) ?_
  simp only [Act.put, List.setIfInBounds_toArray, List.set_cons_succ, List.set_cons_zero]
  repeat (go_big_quiet_step (fail))
  refine quiet_enter (by kernel_rfl) 27 #[.iface 106 (.int .i64 4)] (.int .i64 4) (fun _ => by kernel_rfl) (fun w9 h9x => by have h9 := of_bcls h9x; exact (Code_any [] 4 _ w9 (E_7.out.below (HUP.out w9 h9)) rfl).mono fun e w10 ⟨he, hl⟩ => ⟨he, bcls_of (below_more h9 hl (HSM.out w9 h9))⟩) ?_
  simp only [Act.put, List.setIfInBounds_toArray, List.set_cons_succ, List.set_cons_zero]
  repeat (go_big_quiet_step (fail))
  refine wpQuiet_nil ?_
  intro w8 h9x
  have hL : Below w7.heap.size w7 w8 := by rw [eM1]; exact of_bcls h9x
  clear h9x HUP HSM eM1
  have hM8 : Below N w w8 := below_more hM7 hL hs7
  have hs8 : N ≤ w8.heap.size := Nat.le_trans hs7 (hL).size
  have E_8 := Lib.hid (E_7.out.below hL)
  clear E_7
  have D_8 := Lib.hid (D_7.out.below hL)
  clear D_7
  have K_8 := Lib.hid (K_7.out.under hL)
  clear K_7
  have C_8 := Lib.hid (C_7.out.under hL)
  clear C_7
  have CS_8 := Lib.hid (CS_7.out.below hL)
  clear CS_7
  have Q_8 := Lib.hid (Q_7.out.under hL)
  clear Q_7
  clear hM7 hs7
  clear hL
  go_wp2_with fail
  go_ret
  exact ⟨rfl, by rw [HN.out]; exact hM8⟩
set_option maxHeartbeats 6400000 in
set_option maxRecDepth 100000 in
theorem ArqcAsks_n (k : List UInt8) (vd : Value) (data : List UInt8) (at8 turn : UInt8) (w : World) (hE : Et w) (hk : k.length = 16) (hd : SlB w vd data) (hb : data.length ≤ 200) (ht : ¬ turn = 0) : Calls Tryd.prog 16 #[.agg (Bs k), vd, .int .u8 (bv at8), .int .u8 (bv turn)] w fun e w' => e = .returned (.bool true) ∧ Below w.heap.size w w' := by
  obtain ⟨N, hN⟩ : ∃ N, w.heap.size = N := ⟨_, rfl⟩
  have HN := Lib.hid hN
  have HK := Lib.hid hk
  have HD := Lib.hid hd
  obtain ⟨L, eL⟩ : ∃ L, data.length = L := ⟨_, rfl⟩
  obtain ⟨Ad, cd, rfl, hcd⟩ := hd.formc eL
  have EL := Lib.hid eL
  have y0 := bv_ge at8
  have y1 := bv_lt at8
  generalize bv at8 = y at y0 y1 ⊢
  clear hk hd
  rw [eL] at hb
  clear eL
  obtain ⟨j, ej⟩ : ∃ j : Nat, y % 8 = (j : Int) := ⟨(y % 8).toNat, by omega⟩
  have hj8 : j < 8 := by omega
  obtain ⟨la, ela⟩ : ∃ l, pretail k data = l := ⟨_, rfl⟩
  have hlal : la.length = 8 := by rw [← ela]; exact pretail_len _ _
  have HLA := Lib.hid hlal
  have ELA := Lib.hid ela
  have hsi := set_same_iff la j turn (by rw [hlal]; exact hj8)
  obtain ⟨x0, ex0⟩ : ∃ x, g8 la j = x := ⟨_, rfl⟩
  rw [ex0] at hsi
  have e1 : Go.bits .xor .u8 (bv x0) (bv turn) = bv (x0 ^^^ turn) := bv_xor _ _
  obtain ⟨x1, ex1⟩ : ∃ x, x0 ^^^ turn = x := ⟨_, rfl⟩
  rw [ex1] at hsi e1
  rw [show (turn == 0) = false from by simpa using ht] at hsi
  have hb0 : (bv turn == 0) = false := by rw [show (0 : Int) = bv 0 from rfl, bv_eq]; simpa using ht
  generalize bv turn = tz at e1 hb0 ⊢
  have HSI := Lib.hid hsi
  have EX0 := Lib.hid ex0
  have HV7 := Lib.hid (show (la == la.take 7) = false from by rw [beq_eq_false_iff_ne]; intro h; have := congrArg List.length h; rw [List.length_take, hlal] at this; omega)
  clear hlal ela hsi ex0 ex1
  have hM0 : Below N w w := Below.refl _ _
  have hs0 : N ≤ w.heap.size := by omega
  have E_0 := Lib.hid (hE)
  have D_0 := Lib.hid (HD.out)
  clear hE HD
  go_enter Tryd.func16, Tryd.ntmps16
  go_wp2_with ((with_reducible show wpList _ _ _ _ _ w); refine box_blk (w := w) rfl 41 _ rfl k rfl ?_; intro u0 hA0 hG0 hz0; rw [hN] at hA0 hz0 ⊢)
  have hL : Below w.heap.size w u0 := below_none (Below.refl _ _) (Nat.le_refl _) hG0
  clear hG0 hz0
  have hM1 : Below N w u0 := below_more hM0 hL hs0
  have hs1 : N ≤ u0.heap.size := Nat.le_trans hs0 (hL).size
  have E_1 := Lib.hid (E_0.out.below hL)
  clear E_0
  have D_1 := Lib.hid (D_0.out.below hL)
  clear D_0
  clear hM0 hs0
  clear hL
  have K_1 := Lib.hid (hA0)
  clear hA0
  go_wp2_with fail
  refine (awake19 u0).mono ?_
  rintro e w2 ⟨rfl, hL⟩
  have hM2 : Below N w w2 := below_more hM1 hL hs1
  have hs2 : N ≤ w2.heap.size := Nat.le_trans hs1 (hL).size
  have E_2 := Lib.hid (E_1.out.below hL)
  clear E_1
  have D_2 := Lib.hid (D_1.out.below hL)
  clear D_1
  have K_2 := Lib.hid (K_1.out.under hL)
  clear K_1
  clear hM1 hs1
  clear hL
  go_wp2_with fail
  refine (Make_any _ _ k data w2 (K_2.out.slB HK.out (by decide)) HK.out D_2.out (by rw [EL.out]; omega)).mono ?_
  rintro e w3 ⟨v, rfl, hO, hL⟩
  rw [ELA.out] at hO
  obtain ⟨ga, ca, ega, _, _, _, _, hca⟩ := hO.form (by rw [HLA.out]; decide)
  rw [HLA.out] at ega hca
  subst ega
  have hM3 : Below N w w3 := below_more hM2 hL hs2
  have hs3 : N ≤ w3.heap.size := Nat.le_trans hs2 (hL).size
  have E_3 := Lib.hid (E_2.out.below hL)
  clear E_2
  have D_3 := Lib.hid (D_2.out.below hL)
  clear D_2
  have K_3 := Lib.hid (K_2.out.under hL)
  clear K_2
  clear hM2 hs2
  have C_3 := Lib.hid (hO)
  clear hL hO
  go_wp2_with fail
  refine (Verify_any _ _ _ k data la w3 (K_3.out.slB HK.out (by decide)) HK.out D_3.out (by rw [EL.out]; omega) C_3.out.slB).mono ?_
  rintro e w4 ⟨rfl, hL⟩
  rw [ELA.out, beq_self_eq_true, show sumErr true = Value.nilIface from rfl]
  have hM4 : Below N w w4 := below_more hM3 hL hs3
  have hs4 : N ≤ w4.heap.size := Nat.le_trans hs3 (hL).size
  have E_4 := Lib.hid (E_3.out.below hL)
  clear E_3
  have D_4 := Lib.hid (D_3.out.below hL)
  clear D_3
  have K_4 := Lib.hid (K_3.out.under hL)
  clear K_3
  have C_4 := Lib.hid (C_3.out.under hL)
  clear C_3
  clear hM3 hs3
  clear hL
  have CS_4 := Lib.hid (C_4.out.slB)
  have SMd := Lib.hid hM4
  have SSd := Lib.hid hs4
  have SdE := Lib.hid E_4.out
  have SdD := Lib.hid D_4.out
  have SdK := Lib.hid K_4.out
  have SdC := Lib.hid C_4.out
  have SdCS := Lib.hid CS_4.out
  have Md_4 := Lib.hid (Below.refl w4.heap.size w4)
  go_wp2_with (first | (at_builtin; (with_reducible show wpList _ _ _ _ _ (World.alloc w4 _)); (refine append_b hu_sl hu_u8 rfl _ _ rfl w4.heap.size _ [] (by rfl) (own_lit0 w4 _ (Nat.le_refl _)) _ la (by rfl) (CS_4.out.alloc _) (by rw [HLA.out]; decide) (by simp) ?_); intro vQ w5 hOQ hGQ; have hL : Below w4.heap.size w4 w5 := below_new ((Below.refl _ _).alloc (Nat.le_refl _) _) (by simp) hGQ (Nat.le_refl _); have hO2 : Own w5 w4.heap.size vQ la := hOQ; clear hGQ hOQ; have hM5 : Below N w w5 := below_more hM4 hL hs4; have hs5 : N ≤ w5.heap.size := Nat.le_trans hs4 (hL).size; have E_5 := Lib.hid (E_4.out.below hL); clear E_4; have D_5 := Lib.hid (D_4.out.below hL); clear D_4; have K_5 := Lib.hid (K_4.out.under hL); clear K_4; have C_5 := Lib.hid (C_4.out.under hL); clear C_4; have CS_5 := Lib.hid (CS_4.out.below hL); clear CS_4; have Md_5 := Lib.hid (below_more Md_4.out hL Md_4.out.size); clear Md_4; clear hM4 hs4; have Q_5 := Lib.hid (hO2); clear hL hO2; have hQf := Q_5.out.form (by rw [HLA.out]; decide); obtain ⟨gd, cdd, egd, hgd, _, _, _, _⟩ := hQf; rw [HLA.out] at egd; subst egd; have HQx := Lib.hid (show Own w5 w4.heap.size (.slice (some ⟨gd, 0, none⟩) 8 cdd) la from Q_5.out); have cx := HQx.out.cell j (by rw [HLA.out]; exact hj8); rw [EX0.out] at cx; have HMq := Lib.hid Md_5.out) | ((with_reducible show wpList _ _ _ _ _ w5); refine store_o (w := w5) rfl 5 _ _ rfl w4.heap.size gd j 8 cdd la x1 (by rfl) _ (by rfl) rfl HQx.out (by rw [HLA.out]; exact hj8) (by kernel_rfl) ?_; intro u7 hQ7 hG7 hz7; have HQ7 := Lib.hid hQ7; have HL7 := Lib.hid (show Below w4.heap.size w4 u7 from below_new HMq.out HMq.out.size hG7 hgd); clear hQ7 hG7 hz7 cx HQx HMq))
  have hM6 : Below N w u7 := below_more SMd.out HL7.out SSd.out
  have hs6 : N ≤ u7.heap.size := Nat.le_trans SSd.out (HL7.out).size
  have E_6 := Lib.hid (SdE.out.below HL7.out)
  have D_6 := Lib.hid (SdD.out.below HL7.out)
  have K_6 := Lib.hid (SdK.out.under HL7.out)
  have C_6 := Lib.hid (SdC.out.under HL7.out)
  have CS_6 := Lib.hid (SdCS.out.below HL7.out)
  have Q_6 := Lib.hid (HQ7.out)
  clear HL7 HQ7
  refine (Verify_any _ _ _ k data (la.set j x1) u7 (K_6.out.slB HK.out (by decide)) HK.out D_6.out (by rw [EL.out]; omega) Q_6.out.slB).mono ?_
  rintro e w7 ⟨rfl, hL⟩
  rw [ELA.out, HSI.out, show sumErr false = Value.iface 106 (.int .i64 4) from rfl]
  have hM7 : Below N w w7 := below_more hM6 hL hs6
  have hs7 : N ≤ w7.heap.size := Nat.le_trans hs6 (hL).size
  have E_7 := Lib.hid (E_6.out.below hL)
  clear E_6
  have D_7 := Lib.hid (D_6.out.below hL)
  clear D_6
  have K_7 := Lib.hid (K_6.out.under hL)
  clear K_6
  have C_7 := Lib.hid (C_6.out.under hL)
  clear C_6
  have CS_7 := Lib.hid (CS_6.out.below hL)
  clear CS_6
  have Q_7 := Lib.hid (Q_6.out.under hL)
  clear Q_6
  clear hM6 hs6
  clear hL
  go_wp2_with fail
  obtain ⟨M1, eM1⟩ : ∃ M, w7.heap.size = M := ⟨_, rfl⟩
  have HSM := Lib.hid (show ∀ w9, Below M1 w7 w9 → M1 ≤ w9.heap.size from fun w9 h => by rw [← eM1]; exact h.size)
  have HUP := Lib.hid (show ∀ w9, Below M1 w7 w9 → Below w7.heap.size w7 w9 from fun w9 h => by rw [eM1]; exact h)
  refine wp_region_cls (fun w9 => ∃ x : BSub M1 w7, w9 = x.is) (by kernel_rfl) (by kernel_rfl) (bcls_of (by rw [← eM1]; exact below_drew _)) ?_
  repeat (go_big_quiet_step (fail))
  refine quiet_enter (by kernel_rfl) 27 #[.iface 106 (.int .i64 4)] (.int .i64 4) (fun _ => by kernel_rfl) (fun w9 h9x => by have h9 := of_bcls h9x; exact (Code_any [] 4 _ w9 (E_7.out.below (HUP.out w9 h9)) rfl).mono fun e w10 ⟨he, hl⟩ => ⟨he, bcls_of (below_more h9 hl (HSM.out w9 h9))⟩) ?_
  simp only [Act.put, List.setIfInBounds_toArray, List.set_cons_succ, List.set_cons_zero]
  repeat (go_big_quiet_step (fail))
  refine quiet_enter (by kernel_rfl) 49 #[.slice (some ⟨N, 0, none⟩) 16 16, .slice Ad L cd, .slice (some ⟨ga, 0, none⟩) 7 ca] (.iface 106 (.int .i64 4)) (fun _ => by kernel_rfl) (fun w9 h9x => by have h9 := of_bcls h9x; exact (Verify_any _ _ _ k data (la.take 7) w9 ((K_7.out.under (HUP.out w9 h9)).slB HK.out (by decide)) HK.out (D_7.out.below (HUP.out w9 h9)) (by rw [EL.out]; omega) ((C_7.out.under (HUP.out w9 h9)).slB.take (n := 7) (by rw [HLA.out]; decide))).mono fun e w10 ⟨he, hl⟩ => ⟨by rw [he, ELA.out, HV7.out]; rfl, bcls_of (below_more h9 hl (HSM.out w9 h9))⟩) ?_
  simp only [Act.put, List.setIfInBounds_toArray, List.set_cons_succ, List.set_cons_zero]
  repeat (go_big_quiet_step (fail))
  refine quiet_enter (by kernel_rfl) 27 #[.iface 106 (.int .i64 4)] (.int .i64 4) (fun _ => by kernel_rfl) (fun w9 h9x => by have h9 := of_bcls h9x; exact (Code_any [] 4 _ w9 (E_7.out.below (HUP.out w9 h9)) rfl).mono fun e w10 ⟨he, hl⟩ => ⟨he, bcls_of (below_more h9 hl (HSM.out w9 h9))⟩) ?_
  simp only [Act.put, List.setIfInBounds_toArray, List.set_cons_succ, List.set_cons_zero]
  repeat (go_big_quiet_step (fail))
  refine wpQuiet_nil ?_
  intro w8 h9x
  have hL : Below w7.heap.size w7 w8 := by rw [eM1]; exact of_bcls h9x
  clear h9x HUP HSM eM1
  have hM8 : Below N w w8 := below_more hM7 hL hs7
  have hs8 : N ≤ w8.heap.size := Nat.le_trans hs7 (hL).size
  have E_8 := Lib.hid (E_7.out.below hL)
  clear E_7
  have D_8 := Lib.hid (D_7.out.below hL)
  clear D_7
  have K_8 := Lib.hid (K_7.out.under hL)
  clear K_7
  have C_8 := Lib.hid (C_7.out.under hL)
  clear C_7
  have CS_8 := Lib.hid (CS_7.out.below hL)
  clear CS_7
  have Q_8 := Lib.hid (Q_7.out.under hL)
  clear Q_7
  clear hM7 hs7
  clear hL
  go_wp2_with fail
  go_ret
  exact ⟨rfl, by rw [HN.out]; exact hM8⟩
theorem ArqcAsks_any (k : List UInt8) (vd : Value) (data : List UInt8) (at8 turn : UInt8) (w : World) (hE : Et w) (hk : k.length = 16) (hd : SlB w vd data) : Calls Tryd.prog 16 #[.agg (Bs k), vd, .int .u8 (bv at8), .int .u8 (bv turn)] w fun e w' => e = .returned (.bool true) ∧ Below w.heap.size w w' := by
  by_cases hb : data.length ≤ 200
  · by_cases ht : turn = 0
    · exact ArqcAsks_z k vd data at8 turn w hE hk hd hb ht
    · exact ArqcAsks_n k vd data at8 turn w hE hk hd hb ht
  · exact ArqcAsks_f k vd data at8 turn w hE hk hd hb
end Go.Proofs.YtjbdhnmkeaogcaaDoor
set_option linter.unusedVariables false
set_option linter.unusedSimpArgs false
namespace Lk
open Go Go.RowKit
/-- a slice of whole numbers as it is read -/
def IsRow (k : IntKind) (w : World) (a : Option Addr) (len cap : Nat) (zs : List Int) : Prop :=
  (a = none ∧ len = 0 ∧ cap = 0 ∧ zs = []) ∨
  ∃ x, a = some x ∧ len ≤ cap ∧ cap ≤ maxLen ∧ zs.length = cap ∧ (∀ i, i < zs.length → w.cell? (x.add i) = some (.int k (zs.getD i 0))) ∧ ∀ n ∈ zs, (Lit.int k n).wf = true
theorem u8_of_wf {n : Int} (h : (Lit.int .u8 n).wf = true) : n = bv (UInt8.ofNat n.toNat) := by
  obtain ⟨a, rfl⟩ := open_u8 h
  unfold bv
  simp
theorem slB_of_row {w : World} {a : Option Addr} {len cap : Nat} {zs : List Int} (h : IsRow .u8 w a len cap zs) : ∃ l : List UInt8, l.length = len ∧ SlB w (.slice a len cap) l := by
  rcases h with ⟨rfl, rfl, rfl, rfl⟩ | ⟨x, rfl, h1, h2, h3, h4, h5⟩
  · exact ⟨[], rfl, none, 0, rfl, fun _ => rfl, Nat.le_refl _, Nat.zero_le _, fun h => by omega⟩
  · have hl : ((zs.take len).map fun z => UInt8.ofNat z.toNat).length = len := by simp; omega
    refine ⟨(zs.take len).map fun z => UInt8.ofNat z.toNat, hl, some x, cap, by rw [hl], fun h => (by cases h), by rw [hl]; exact h1, h2, fun hc => ?_⟩
    have hx : x.spot = none := by
      have := h4 0 (by omega)
      have e : x.add 0 = x := by simp [Addr.add]
      rw [e] at this
      unfold World.cell? at this
      split at this
      · split at this
        · cases this
        · rename_i hs; simpa using hs
      · cases this
    obtain ⟨g, o, s⟩ := x
    cases hx
    refine ⟨g, o, rfl, fun k hk => ?_⟩
    rw [hl] at hk
    have hc := h4 k (by omega)
    have ea : (⟨g, o, none⟩ : Addr).add k = ⟨g, o + k, none⟩ := by unfold Addr.add; split <;> simp_all
    rw [ea] at hc
    rw [hc]
    have hm : zs.getD k 0 ∈ zs := by
      have : k < zs.length := by omega
      simp [this]
    have := u8_of_wf (h5 _ hm)
    have e : g8 ((zs.take len).map fun z => UInt8.ofNat z.toNat) k = UInt8.ofNat (zs.getD k 0).toNat := by
      unfold g8
      have : k < zs.length := by omega
      simp [List.getElem?_take, hk, this]
    rw [e, ← this]
section
variable {P : Program} {H : Type} {enc : TypeId × Value → H}
theorem open_slice_u8 {t e : TypeId} {W : World} {a : Option Addr} {len cap : Nat} {d : DataW H} {ps : List MemPlace} (ht : P.underlying t = some (.slice e)) (he : P.underlying e = some (.int .u8)) (hc : P.cellsOf e = 1)
    (h : DataW.Trod enc P W 0 (fun _ => true) true t (.slice a len cap) d ps) : ∃ l : List UInt8, l.length = len ∧ SlB W (.slice a len cap) l := by
  obtain ⟨zs, hz⟩ : ∃ zs, IsRow .u8 W a len cap zs := by
    obtain ⟨fuel, hf⟩ := h
    rcases Go.ChangeShapes.open_ints ht he hc hf with ⟨hcs, _⟩ | ⟨x, l, c, zs, hcs, _, hl, hm, hz, _, hcell, hwz⟩
    · simp [Value.cells] at hcs
      obtain ⟨rfl, rfl, rfl⟩ := hcs
      exact ⟨[], .inl ⟨rfl, rfl, rfl, rfl⟩⟩
    · simp [Value.cells] at hcs
      obtain ⟨rfl, rfl, rfl⟩ := hcs
      exact ⟨zs, .inr ⟨_, rfl, hl, hm, by simpa using hz, hcell, hwz⟩⟩
  exact slB_of_row hz
/-- an array of bytes -/
theorem open_arr_u8 {t e n : Nat} {W : World} {r : Reach} {base : Nat} {v : Value} (ht : P.underlying t = some (.array n e)) (he : P.underlying e = some (.int .u8)) (hc : P.cellsOf t = n) (hct : P.cellTypes P.depth t = some (List.replicate n e)) (hn : 0 < n)
    (h : Value.okWide P W r base t v) : ∃ l : List UInt8, l.length = n ∧ v = .agg (Bs l) := by
  simp only [Value.okWide, ht] at h
  obtain ⟨cs, rfl, hsz, ts, hts, _, hcell⟩ := h
  rw [hct] at hts
  cases hts
  rw [hc] at hsz
  refine ⟨cs.toList.map fun v => match v with | .int _ z => UInt8.ofNat z.toNat | _ => 0, by simp [hsz], ?_⟩
  congr 1
  apply Array.ext
  · simp [Bs]
  · intro i h1 h2
    obtain ⟨u, hu, hok⟩ := hcell i cs[i] (by simp [h1])
    have hue : u = e := by
      rw [List.getElem?_replicate] at hu
      split at hu
      · cases hu; rfl
      · cases hu
    subst hue
    simp only [Cell.okWide, he] at hok
    simp only [Bs, List.map_map, List.getElem_toArray, List.getElem_map, Function.comp_apply, Array.getElem_toList]
    cases hv : cs[i] with
    | int k z =>
      rw [hv] at hok
      simp only [Cell.ok, he] at hok
      obtain ⟨rfl, hw⟩ := hok
      have hw' : (Lit.int .u8 z).wf = true := by
        unfold Lit.wf
        rw [Bool.and_eq_true]
        exact ⟨decide_eq_true hw.1, decide_eq_true hw.2⟩
      simp only [← u8_of_wf hw']
    | _ => rw [hv] at hok; simp [Cell.ok, he] at hok
end
end Lk
set_option linter.unusedVariables false
namespace Go.Proofs.YtjbdhnmkeaogcaaDoor
open Go.ChangeShapes Go.WideShapes Go.RowKit
theorem ownKnobNone : ownKnob Tryd.prog.godebug = none := by kernel_rfl
theorem laidOutAll : laidOutB Tryd.prog = true := by kernel_rfl
theorem fct_laid : laidOutB Tryd.checked.prog = true := by kernel_rfl
theorem fct_maps : mapsRowed Tryd.checked.prog = true := by kernel_rfl
theorem fct_main : Tryd.pinned.checked.prog.mainIs = some (true, "8650a698aaa6e7940681561f98863e190d5ec889b7f6ab40edacde75e00aa3ea".toList) := by kernel_rfl
theorem fct_looks : true = Tryd.pinned.checked.prog.looks [] := by kernel_rfl
def laidList : List (String × DataW Unit) := [("errors.errorType", Rows.laid_errors_errorType)]
theorem et_g : Tryd.prog.globalNamed "errors.errorType" = some 0 := by kernel_rfl
theorem et_rt : (Tryd.prog.cutTypes.find? (·.1 == "internal/reflectlite.rtype")).map (·.2) = some 171 := by kernel_rfl
theorem et_row : ((List.range 242).filter fun t => Tryd.prog.rowNamed t [101, 114, 114, 111, 114]) = [29] := by kernel_rfl
theorem et_size : Tryd.prog.types.size = 242 := by kernel_rfl
theorem handle_of_laid {W : World} (h : laidMetH Tryd.prog laidList W) : Et W := by
  have h' : laidMet Tryd.prog [] W ∧ handlesMet Tryd.prog laidList W := h
  obtain ⟨name, u, ty, e1, e2, e3, e4, e5⟩ := h'.2 _ (List.mem_singleton.2 rfl)
  have en : name = [101, 114, 114, 111, 114] := (Option.some.inj e1).symm
  subst en
  obtain rfl := Option.some.inj (et_rt.symm.trans e2)
  have hm : ty ∈ (List.range 242).filter fun t => Tryd.prog.rowNamed t [101, 114, 114, 111, 114] := List.mem_filter.2 ⟨List.mem_range.2 (by rw [← et_size]; exact e3), e4⟩
  rw [et_row] at hm
  obtain rfl := List.mem_singleton.1 hm
  have hh : typeHandle Tryd.prog 29 = .pointer (some ⟨1, 29, none⟩) := by kernel_rfl
  rw [hh] at e5
  have := World.var?_cell et_g e5 0
  unfold Et hnd
  simpa using this
noncomputable def laidWorld (os : Os) : World :=
  let w0 := World.holding Tryd.prog os ⟨#[], #[], []⟩
  { w0 with heap := w0.heap.modify 0 fun
      | .cells _ t frozen => .cells #[.iface 171 (.agg #[.pointer (some ⟨1, 29, none⟩)])] t frozen
      | o => o }
theorem laidWorld_met (os : Os) (args : Array Value) : laidMetH Tryd.prog laidList ((laidWorld os).forCall (fun _ _ => 0) ⟨#[], args, []⟩).memory :=
  laidMetH_of_parts (laidMet_nil _ _) (by kernel_rfl)
end Go.Proofs.YtjbdhnmkeaogcaaDoor
namespace Go.Proofs.YtjbdhnmkeaogcaaDoor.arqcAsks
open Go.ChangeShapes Go.WideShapes Go.ChangeAt Go.RowKit Lk
open Go.ChangeMaps (open_string shut_string)
set_option linter.unusedVariables false
set_option linter.unusedSimpArgs false
set_option maxRecDepth 100000 in
theorem lifted (os : Os) (started : os.Started) (H : Type) (enc : TypeId × Value → H) :
    ReturnsInHanded {} Tryd.checked os 16 .any (fun w args => (Rows.arqcAsksSpec.pre enc Tryd.prog Tryd.f16 [] false w args ∧ laidMetH Tryd.prog laidList w) ∧ sizedMet enc Tryd.prog Tryd.f16 (OpenSpec.ofChange Rows.arqcAsksSpec) false w args)
      (Rows.arqcAsksSpec.post enc Tryd.prog Tryd.f16 false true false false) := by
  refine returnsInHanded_of_change_and (C := Tryd.checked) (X := fun w _ => laidMetH Tryd.prog laidList w) (fun _ _ _ hh h => h.of_heap hh) ownKnobNone started (by kernel_rfl) Tryd.func16
    (ChangeSpec.witness_at (enc := enc) (C := Tryd.checked) (os := os) (X := fun w _ => laidMetH Tryd.prog laidList w) false (laidWorld os) #[.agg #[.int .u8 0, .int .u8 0, .int .u8 0, .int .u8 0, .int .u8 0, .int .u8 0, .int .u8 0, .int .u8 0, .int .u8 0, .int .u8 0, .int .u8 0, .int .u8 0, .int .u8 0, .int .u8 0, .int .u8 0, .int .u8 0], .slice none 0 0, .int .u8 0, .int .u8 0] 8 rfl (by kernel_rfl) (by kernel_rfl) (by kernel_rfl) (by kernel_rfl) (by kernel_rfl) (laidWorld_met os _)) ?_
  intro W base args ds gs before hval0 hW _ _ hLd _
  have hval : ∀ (j : Nat) t v, Tryd.f16.params[j]? = some t → args[j]? = some v → Value.okWide Tryd.prog W .any base t v := hval0
  have hW' := hW
  obtain ⟨p, q, hA0, hV, rfl, hfz, hnd⟩ := hW
  have hA : DataW.TrodAll enc Tryd.prog W 0 (fun _ => true) true Tryd.f16.params.toList args.toList ds p := hA0
  have hEt : Et W := handle_of_laid hLd
  rw [Tryd.params16] at hA hval
  obtain ⟨v0, vs0, d0, ds0, p0, q0, hargs, rfl, rfl, h0, r0⟩ := trodAll_cons hA
  obtain ⟨v1, vs1, d1, ds1, p1, q1, rfl, rfl, rfl, h1, r1⟩ := trodAll_cons r0
  obtain ⟨v2, vs2, d2, ds2, p2, q2, rfl, rfl, rfl, h2, r2⟩ := trodAll_cons r1
  obtain ⟨v3, vs3, d3, ds3, p3, q3, rfl, rfl, rfl, h3, r3⟩ := trodAll_cons r2
  obtain ⟨rfl, rfl, rfl⟩ := trodAll_nil r3
  obtain rfl : args = #[v0, v1, v2, v3] := by cases args; simp_all
  obtain ⟨rfl, rfl⟩ := trodVars_none hV
  have k0 := h0
  have lt0 : ∀ x ∈ p0, x.block < W.heap.size := by obtain ⟨m, hm⟩ := k0; exact DataW.trod_lt m _ _ _ hm
  obtain ⟨l0, hl0, rfl⟩ := open_arr_u8 Tryd.underlying41 Tryd.underlying5 (by kernel_rfl) (by kernel_rfl) (by decide) (hval 0 41 v0 rfl rfl)
  have k1 := h1
  have lt1 : ∀ x ∈ p1, x.block < W.heap.size := by obtain ⟨m, hm⟩ := k1; exact DataW.trod_lt m _ _ _ hm
  obtain ⟨a1, len1, cap1, rfl⟩ := okWide_slice Tryd.underlying22 (hval 1 22 v1 rfl rfl)
  obtain ⟨l1, hl1, s1⟩ := open_slice_u8 Tryd.underlying22 Tryd.underlying5 (by kernel_rfl) h1
  have k2 := h2
  have lt2 : ∀ x ∈ p2, x.block < W.heap.size := by obtain ⟨m, hm⟩ := k2; exact DataW.trod_lt m _ _ _ hm
  obtain ⟨a2, rfl, rfl, rfl, w2⟩ := open_int Tryd.underlying5 (hval 2 5 v2 rfl rfl) h2
  obtain ⟨b2, rfl⟩ := Lk.open_u8 w2
  have k3 := h3
  have lt3 : ∀ x ∈ p3, x.block < W.heap.size := by obtain ⟨m, hm⟩ := k3; exact DataW.trod_lt m _ _ _ hm
  obtain ⟨a3, rfl, rfl, rfl, w3⟩ := open_int Tryd.underlying5 (hval 3 5 v3 rfl rfl) h3
  obtain ⟨b3, rfl⟩ := Lk.open_u8 w3
  clear hA0 hval0
  refine (ArqcAsks_any l0 _ l1 b2 b3 W hEt hl0 s1).mono fun e W' ⟨he, bel⟩ => ?_
  subst he
  exact ⟨_, rfl, _, _, _, [], _, [], hW', trodAll_mk1 (shut_bool Tryd.underlying4 _), (trodAll_cons_mk (Below.trod laidOutAll (by kernel_rfl) (of_decide_eq_true (by kernel_rfl)) k0 bel lt0) (trodAll_cons_mk (Below.trod laidOutAll (by kernel_rfl) (of_decide_eq_true (by kernel_rfl)) k1 bel lt1) (trodAll_cons_mk (Below.trod laidOutAll (by kernel_rfl) (of_decide_eq_true (by kernel_rfl)) k2 bel lt2) (trodAll_cons_mk (Below.trod laidOutAll (by kernel_rfl) (of_decide_eq_true (by kernel_rfl)) k3 bel lt3) trodAll_mk0)))), rfl, bel.frame _, fun h => by cases h⟩
set_option maxHeartbeats 8000000 in
theorem closed : joinedFacts Tryd.checked.prog 16 Tryd.f16 Rows.arqcAsksSpec Rows.arqcAsksRow = true := by
  unfold joinedFacts
  simp only [Bool.and_eq_true]
  repeat' apply And.intro
  all_goals first | with_reducible exact fct_laid | with_reducible exact fct_maps | as_aux_lemma => kernel_rfl
theorem named_f : Tryd.prog.funcNamed "lockbox/lockboxlaw19.ArqcAsks" = some 16 := by kernel_rfl
theorem over : Rows.ArqcAsksSaid :=
  OpenClaim.holds_of_wide 16 Tryd.f16 rfl rfl rfl rfl rfl rfl rfl ⟨rfl, rfl, rfl, rfl, rfl⟩ rfl rfl rfl rfl rfl named_f Tryd.func16 closed
    (of_decide_eq_true (by kernel_rfl)) (by unfold Func.isWrapper; first | (rw [if_pos (by decide +kernel)]; kernel_rfl) | (rw [if_neg (by decide +kernel)]; exact ⟨rfl, rfl⟩))
    (fun os started H enc _ => lifted os started H enc)
theorem params_ok (j : Nat) (t : TypeId) (ht : Tryd.f16.params[j]? = some t) : Tryd.prog.wantsStandIn t = false := by
  rw [Tryd.params16] at ht
  have hm : t ∈ #[41, 22, 5, 5] := Array.mem_of_getElem? ht
  simp only [List.mem_toArray, List.mem_cons, List.not_mem_nil, or_false] at hm
  rcases hm with rfl | rfl | rfl | rfl
  · show Tryd.prog.wantsStandIn 41 = false
    kernel_rfl
  · show Tryd.prog.wantsStandIn 22 = false
    kernel_rfl
  · show Tryd.prog.wantsStandIn 5 = false
    kernel_rfl
  · show Tryd.prog.wantsStandIn 5 = false
    kernel_rfl
theorem wf_text : Rows.arqcAsksRow.wfByText (OpenSpec.ofChange Rows.arqcAsksSpec) = true := by kernel_rfl
theorem goes_no : false = Rows.arqcAsksRow.goesBy Tryd.pinned.checked.prog := by kernel_rfl
theorem card_holds : Rows.ArqcAsksCardSaid :=
  Claim7.holds_tied_plain_at .later [] [.handle] true (true, "8650a698aaa6e7940681561f98863e190d5ec889b7f6ab40edacde75e00aa3ea") true
    over (fun _ h => by cases h) wf_text (fun _ h => by cases h) arqcAsks_row_tie rfl ⟨rfl, rfl⟩ fct_main rfl
    (fun f fn hf hfn => by
      obtain rfl : f = 16 := Option.some.inj (named_f.symm.trans hf) |>.symm
      obtain rfl : fn = Tryd.f16 := (Option.some.inj (Tryd.func16.symm.trans hfn)).symm
      exact ⟨fct_looks, fun j t ht => params_ok j t ht⟩)
    goes_no
#print axioms card_holds
end Go.Proofs.YtjbdhnmkeaogcaaDoor.arqcAsks
namespace Go.Proofs.YtjbdhnmkeaogcaaDoor
/-- The card, under a short name, for the claim. -/
theorem arqcAsks_holds : Rows.ArqcAsksCardSaid := arqcAsks.card_holds
end Go.Proofs.YtjbdhnmkeaogcaaDoor
