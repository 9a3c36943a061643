/- GuardTwo: without the code of officer 1. -/
import Derived.Test.YtbbfjlnkhenbiaaGreatDoorKGT
import Derived.Test.YtbbfjlnkhenbiaaGreatDoorKOH
import Derived.Test.YtbbfjlnkhenbiaaGreatDoorKG0
set_option linter.unusedVariables false
set_option linter.unusedSimpArgs false
namespace Go.Proofs.YtbbfjlnkhenbiaaGreatDoor
open Go Go.RowKit Lk
set_option maxHeartbeats 25600000 in
set_option maxRecDepth 100000 in
theorem GT_main1 (K : List UInt8) (vl : Value) (LT : Nat) (tw : Nat → Int) (tc : Nat → ByteArray) (tl : Nat → Bool) (w : World) (hE : Et w) (hk : K.length = 16) (hl : SlT w vl LT tw tc tl) (b0 : LT ≤ 60) : Calls Tryz.prog 5 #[.agg (Bs K), vl, .bool true] w fun e w' => e = .returned (.bool true) ∧ Below w.heap.size w w' := by
 obtain ⟨N, hN⟩ : ∃ N, w.heap.size = N := ⟨_, rfl⟩
 have HN := Lib.hid hN
 have HK := Lib.hid hk
 obtain ⟨At, ct, rfl, hct, hr⟩ := hl
 clear hk
 obtain ⟨T0, eT0⟩ : ∃ t, ptag K 0 ⟨#[97, 108, 112, 104, 97]⟩ = t := ⟨_, rfl⟩
 obtain ⟨T1, eT1⟩ : ∃ t, ptag K 1 ⟨#[111, 109, 101, 103, 97, 50]⟩ = t := ⟨_, rfl⟩
 have H0 := Lib.hid (show T0.length = 16 by rw [← eT0]; exact ptag_len _ _ _)
 have H1 := Lib.hid (show T1.length = 16 by rw [← eT1]; exact ptag_len _ _ _)
 have HNW := Lib.hid (fun (w1 : World) => GNew_yes K ⟨#[97, 108, 112, 104, 97]⟩ ⟨#[111, 109, 101, 103, 97, 50]⟩ w1 HK.out (by decide) (by decide) (by decide) (by decide))
 rw [eT0, eT1] at HNW
 have ET0 := Lib.hid eT0
 have ET1 := Lib.hid eT1
 have HE0 := Lib.hid hE
 have HR0 := Lib.hid hr
 have i0 : decide ((60 : Int) < (LT : Int)) = false := by simp; omega
 clear hct hr eT0 eT1
 have hM0 : Below N w w := Below.refl _ _
 have hs0 : N ≤ w.heap.size := by omega
 have E_0 := Lib.hid (hE)
 go_enter Tryz.func5, Tryz.ntmps5
 go_wp2_with (first | ((with_reducible show wpList _ _ _ _ _ w); refine box_blk (w := w) rfl 53 _ rfl K rfl ?_; intro u0 hA0 hG0 hz0; have hL : Below w.heap.size w u0 := below_none (Below.refl _ _) (Nat.le_refl _) hG0; rw [hN] at hA0 ⊢; clear hG0 hz0; have hM1 : Below N w u0 := below_more hM0 hL hs0; have hs1 : N ≤ u0.heap.size := Nat.le_trans hs0 (hL).size; have E_1 := Lib.hid (E_0.out.below hL); clear E_0; clear hM0 hs0; have K_1 := Lib.hid (hA0); clear hL hA0) | (go_at_call 26; (with_reducible show Calls _ _ _ u0 _); refine (awake24 u0 E_1.out).mono ?_; rintro e w2 ⟨rfl, hL⟩; have hM2 : Below N w w2 := below_more hM1 hL hs1; have hs2 : N ≤ w2.heap.size := Nat.le_trans hs1 (hL).size; have E_2 := Lib.hid (E_1.out.below hL); clear E_1; have K_2 := Lib.hid (K_1.out.under hL); clear K_1; clear hM1 hs1; clear hL))
 have hgc : VB (World.alloc w2 (.cells #[.string ⟨#[97, 108, 112, 104, 97]⟩, .string ⟨#[111, 109, 101, 103, 97, 50]⟩] 9)) w2.heap.size 9 [.string ⟨#[97, 108, 112, 104, 97]⟩, .string ⟨#[111, 109, 101, 103, 97, 50]⟩] := heap_alloc_new w2 _
 have hL : Below w2.heap.size w2 (World.alloc w2 (.cells #[.string ⟨#[97, 108, 112, 104, 97]⟩, .string ⟨#[111, 109, 101, 103, 97, 50]⟩] 9)) := below_alloc (Below.refl _ _) (Nat.le_refl _) _
 have hcN : N ≤ w2.heap.size := hs2
 generalize World.alloc w2 _ = wc at hgc hL ⊢
 obtain ⟨Gc, eGc⟩ : ∃ g, w2.heap.size = g := ⟨_, rfl⟩
 rw [eGc] at hgc hcN ⊢
 have HCN := Lib.hid hcN
 have HGC := Lib.hid eGc
 clear hcN eGc
 have hM3 : Below N w wc := below_more hM2 hL hs2
 have hs3 : N ≤ wc.heap.size := Nat.le_trans hs2 (hL).size
 have E_3 := Lib.hid (E_2.out.below hL)
 clear E_2
 have K_3 := Lib.hid (K_2.out.under hL)
 clear K_2
 clear hM2 hs2
 have c_3 := Lib.hid (hgc)
 clear hL hgc
 obtain ⟨M, eM⟩ : ∃ M, wc.heap.size = M := ⟨_, rfl⟩
 have HSM := Lib.hid (show ∀ wq, Below M wc wq → Below wc.heap.size wc wq from fun wq h => by rw [eM]; exact h)
 have HMR := Lib.hid eM
 have hS : Below M wc wc.drew := ⟨rfl, rfl, rfl, Nat.le_refl _, fun _ _ => rfl⟩
 have HKk := Lib.hid (show ∀ wq, Below M wc wq → Blk wq N 53 K from fun wq h => K_3.out.under (HSM.out wq h))
 have HCc0 := Lib.hid (show ∀ wq, Below M wc wq → wq.cell? ⟨Gc, 0, none⟩ = some (.string ⟨#[97, 108, 112, 104, 97]⟩) from fun wq h => VB.cell (VB.next c_3.out (HSM.out wq h)) 0 _ rfl)
 have HCc1 := Lib.hid (show ∀ wq, Below M wc wq → wq.cell? ⟨Gc, 1, none⟩ = some (.string ⟨#[111, 109, 101, 103, 97, 50]⟩) from fun wq h => VB.cell (VB.next c_3.out (HSM.out wq h)) 1 _ rfl)
 refine wp_region_held (S := fun wq => Below M wc wq) (by kernel_rfl) ?_
 show wpAnyH _ _ _ _ _ 14 _ _ wc.drew
 refine tkl 0 29 rfl rfl (by kernel_rfl) idq (yields_load (by kernel_rfl) 53 _ rfl N 0 16 5 K (by kernel_rfl) (fun wq hq => (HKk.out wq hq).rd0) HK.out (by kernel_rfl) (by kernel_rfl)) hS ?_
 refine tkw 1 30 rfl rfl (by kernel_rfl) (.slice (some ⟨Gc, 0, none⟩) 2 2) idq (fun _ => by kernel_rfl) hS ?_
 refine tkw 2 31 rfl rfl (by kernel_rfl) (.pointer (some ⟨Gc, 0, none⟩)) idq (fun _ => by kernel_rfl) hS ?_
 refine tkl 3 32 rfl rfl (by kernel_rfl) idq (yields_cell (by kernel_rfl) (.string ⟨#[97, 108, 112, 104, 97]⟩) 9 _ rfl ⟨Gc, 0, none⟩ (by kernel_rfl) (fun w h => load_stry w _ _ h) (fun wq hq => HCc0.out wq hq)) hS ?_
 refine tkw 4 33 rfl rfl (by kernel_rfl) (.slice (some ⟨Gc, 0, none⟩) 2 2) idq (fun _ => by kernel_rfl) hS ?_
 refine tkw 5 34 rfl rfl (by kernel_rfl) (.pointer (some ⟨Gc, 1, none⟩)) idq (fun _ => by kernel_rfl) hS ?_
 refine tkl 6 35 rfl rfl (by kernel_rfl) idq (yields_cell (by kernel_rfl) (.string ⟨#[111, 109, 101, 103, 97, 50]⟩) 9 _ rfl ⟨Gc, 1, none⟩ (by kernel_rfl) (fun w h => load_stry w _ _ h) (fun wq hq => HCc1.out wq hq)) hS ?_
 apply share (fun (wz : World) (gx : Nat) => Below M wc wz ∧ GB wz gx gdt K T0 T1 false false 0 0 ∧ M ≤ gx)
 case main =>
  intro key
  refine anyH_two 7 11 (by kernel_rfl) ?_ ?_
  next =>
   refine opH_enter (some 36) rfl (by kernel_rfl) (by kernel_rfl) 27 #[.agg (Bs K), .string ⟨#[97, 108, 112, 104, 97]⟩, .string ⟨#[111, 109, 101, 103, 97, 50]⟩] (fun v wq => v = .tuple #[.agg (ga K T0 T1 false false 0 0), .nilIface] ∧ Below wc.drew.heap.size wc.drew wq) (by kernel_rfl) ((HNW.out wc.drew).mono fun e wq ⟨q1, q2⟩ => ⟨_, q1, rfl, q2⟩) ?_
   rintro v9 v1 ⟨rfl, hL⟩
   have hS := hmr hS hL HMR.out
   refine ⟨hS, ?_⟩
   refine tkw 8 28 rfl rfl (by kernel_rfl) (.tuple #[.agg (ga K T0 T1 false false 0 0), .nilIface]) idq (fun _ => by kernel_rfl) hS ?_
   refine tkw 9 37 rfl rfl (by kernel_rfl) (.agg (ga K T0 T1 false false 0 0)) idq (fun _ => by kernel_rfl) hS ?_
   refine tkw 10 38 rfl rfl (by kernel_rfl) (.nilIface) idq (fun _ => by kernel_rfl) hS ?_
   refine anyH_one 11 (by kernel_rfl) ?_
   refine ⟨?_⟩
   refine wpOp_alloc rfl (by kernel_rfl) gdt rfl (.agg (ga zg zg zg false false 0 0)) 52 (fun _ => by kernel_rfl) (by kernel_rfl) ?_
   intro v2 hRx hGa hza
   obtain ⟨gx, egx⟩ : ∃ g, v1.heap.size = g := ⟨_, rfl⟩
   rw [egx] at hRx ⊢
   have hgx : M ≤ gx := by have := hS.size; have := HMR.out; omega
   have hS : Below M wc v2 := below_none hS (by have := hS.size; have := HMR.out; omega) hGa
   refine ⟨hS, ?_⟩
   refine anyH_one 12 (by kernel_rfl) ?_
   refine ⟨?_⟩
   refine wpOp_storev rfl (by kernel_rfl) gdt _ _ rfl gx gdt 52 (gcs K T0 T1 false false 0 0) (by kernel_rfl) (by kernel_rfl) hRx (gcs_one _ _ _ _ _ _ _) (gcs_len _ _ _ _ _ _ _ HK.out H0.out H1.out) gdt_i ?_
   intro wz hBx hGx hzx
   have hS : Below M wc wz := below_new hS (by have := hS.size; have := HMR.out; omega) hGx hgx
   refine ⟨hS, ?_⟩
   refine tkw 13 9 rfl rfl (by kernel_rfl) (.nilIface) idq (fun _ => by kernel_rfl) hS ?_
   refine wpAnyH_done (by kernel_rfl) ?_ _
   simp only [Act.put, List.getElem_toArray, List.getElem_cons_succ, List.getElem_cons_zero, List.setIfInBounds_toArray, List.set_cons_succ, List.set_cons_zero]
   exact key wz gx ⟨hS, hBx, hgx⟩
  next =>
   refine ⟨?_⟩
   refine wpOp_alloc rfl (by kernel_rfl) gdt rfl (.agg (ga zg zg zg false false 0 0)) 52 (fun _ => by kernel_rfl) (by kernel_rfl) ?_
   intro v1 hRx hGa hza
   obtain ⟨gx, egx⟩ : ∃ g, wc.drew.heap.size = g := ⟨_, rfl⟩
   rw [egx] at hRx ⊢
   have hgx : M ≤ gx := by have := hS.size; have := HMR.out; omega
   have hS : Below M wc v1 := below_none hS (by have := hS.size; have := HMR.out; omega) hGa
   refine ⟨hS, ?_⟩
   refine anyH_one 7 (by kernel_rfl) ?_
   refine opH_enter (some 36) rfl (by kernel_rfl) (by kernel_rfl) 27 #[.agg (Bs K), .string ⟨#[97, 108, 112, 104, 97]⟩, .string ⟨#[111, 109, 101, 103, 97, 50]⟩] (fun v wq => v = .tuple #[.agg (ga K T0 T1 false false 0 0), .nilIface] ∧ Below v1.heap.size v1 wq) (by kernel_rfl) ((HNW.out v1).mono fun e wq ⟨q1, q2⟩ => ⟨_, q1, rfl, q2⟩) ?_
   rintro v9 v2 ⟨rfl, hL⟩
   have hRx := hRx.below hL hRx.lt
   have hS := hmr hS hL HMR.out
   refine ⟨hS, ?_⟩
   refine tkw 8 28 rfl rfl (by kernel_rfl) (.tuple #[.agg (ga K T0 T1 false false 0 0), .nilIface]) idq (fun _ => by kernel_rfl) hS ?_
   refine tkw 9 37 rfl rfl (by kernel_rfl) (.agg (ga K T0 T1 false false 0 0)) idq (fun _ => by kernel_rfl) hS ?_
   refine tkw 10 38 rfl rfl (by kernel_rfl) (.nilIface) idq (fun _ => by kernel_rfl) hS ?_
   refine anyH_one 12 (by kernel_rfl) ?_
   refine ⟨?_⟩
   refine wpOp_storev rfl (by kernel_rfl) gdt _ _ rfl gx gdt 52 (gcs K T0 T1 false false 0 0) (by kernel_rfl) (by kernel_rfl) hRx (gcs_one _ _ _ _ _ _ _) (gcs_len _ _ _ _ _ _ _ HK.out H0.out H1.out) gdt_i ?_
   intro wz hBx hGx hzx
   have hS : Below M wc wz := below_new hS (by have := hS.size; have := HMR.out; omega) hGx hgx
   refine ⟨hS, ?_⟩
   refine tkw 13 9 rfl rfl (by kernel_rfl) (.nilIface) idq (fun _ => by kernel_rfl) hS ?_
   refine wpAnyH_done (by kernel_rfl) ?_ _
   simp only [Act.put, List.getElem_toArray, List.getElem_cons_succ, List.getElem_cons_zero, List.setIfInBounds_toArray, List.set_cons_succ, List.set_cons_zero]
   exact key wz gx ⟨hS, hBx, hgx⟩
 rintro wz gx ⟨hS, hBx, hgx⟩
 have hL := HSM.out wz hS
 have hgB : GB wz gx gdt K T0 T1 false false 0 0 := hBx
 have hgM := Lib.hid (show M ≤ gx ∧ M = wc.heap.size from ⟨hgx, HMR.out.symm⟩)
 obtain ⟨Gg, eGg⟩ : ∃ g, gx = g := ⟨_, rfl⟩
 rw [eGg] at hgB hgM ⊢
 obtain ⟨w4, ewz⟩ : ∃ x, wz = x := ⟨_, rfl⟩
 rw [ewz] at hL hgB ⊢
 clear ewz eGg hBx hgx
 have HCG := Lib.hid (show Gc < Gg from by have h1 := c_3.out.lt; have h2 := hgM.out; have h3 := HMR.out; omega)
 have HNG := Lib.hid (show N ≤ Gg from by have h1 := HCN.out; have h2 := HCG.out; omega)
 clear hgM HKk HCc0 HCc1
 clear HSM HMR hS eM
 have hM4 : Below N w w4 := below_more hM3 hL hs3
 have hs4 : N ≤ w4.heap.size := Nat.le_trans hs3 (hL).size
 have E_4 := Lib.hid (E_3.out.below hL)
 clear E_3
 have K_4 := Lib.hid (K_3.out.under hL)
 clear K_3
 have c_4 := Lib.hid (c_3.out.next hL)
 clear c_3
 clear hM3 hs3
 have g_4 := Lib.hid (hgB)
 clear hL hgB
 go_wp2_with fail
 have hg9 := g_4.out
 have hK9 := K_4.out
 have hc9 := c_4.out
 have hE9 := E_4.out
 have hM9 := hM4
 have hs9 := hs4
 clear E_4 K_4 c_4 g_4 hM4 hs4
 go_loopw [11] (fun i wr => ∃ (k : Nat) (a b : Bool) (m n : Int), k ≤ LT ∧ i = .int .i64 k ∧ GB wr Gg gdt K T0 T1 a b m n ∧ 0 ≤ m ∧ 0 ≤ n ∧ (a = true → m = 0) ∧ (b = true → n = 0) ∧ b = false ∧ Blk wr N 53 K ∧ VB wr Gc 9 [.string ⟨#[97, 108, 112, 104, 97]⟩, .string ⟨#[111, 109, 101, 103, 97, 50]⟩] ∧ Et wr ∧ Below N w wr ∧ N ≤ wr.heap.size) (fun i _ => LT - (intOf i).toNat)
 case atStart => exact ⟨0, false, false, 0, 0, by omega, rfl, hg9, by omega, by omega, fun h => (by cases h), fun h => (by cases h), rfl, hK9, hc9, hE9, hM9, hs9⟩
 case round =>
  clear hg9 hK9 hc9 hE9 hM9 hs9
  obtain ⟨k, a, b, m, n, hk, rfl, hg9, hm0, hn0, ham, hbn, hno, hK9, hc9, hE9, hM9, hs9⟩ := hrel
  by_cases hlt : k < LT
  next =>
   obtain ⟨g, o, rfl, hrd⟩ := HR0.out (by omega)
   have hgN : g < N := by rw [← hN]; exact block_of_cell (hrd 0 (by omega)).1
   obtain ⟨u, eu⟩ : ∃ u, tw k = u := ⟨_, rfl⟩
   obtain ⟨s, es⟩ : ∃ s, tc k = s := ⟨_, rfl⟩
   obtain ⟨lv, el⟩ : ∃ b, tl k = b := ⟨_, rfl⟩
   have HTw := Lib.hid (fun (wq : World) (hq : Below N w wq) => show wq.cell? ⟨g, o + k * 3, none⟩ = some (.int .i64 u) by rw [← eu]; exact cell_below (hrd k hlt).1 hq hgN)
   have HTc := Lib.hid (fun (wq : World) (hq : Below N w wq) => show wq.cell? ⟨g, o + k * 3 + 1, none⟩ = some (.string s) by rw [← es]; exact cell_below (hrd k hlt).2.1 hq hgN)
   have ct1 := HTc.out wr hM9
   have ct2 : wr.cell? ⟨g, o + k * 3 + 2, none⟩ = some (.bool lv) := by rw [← el]; exact cell_below (hrd k hlt).2.2 hM9 hgN
   have HLT := Lib.hid hlt
   have hik : (k : Int) < (LT : Int) := by omega
   clear hrd eu es el
   by_cases h100 : s.size ≤ 100
   next =>
    have i1 : decide ((100 : Int) < (s.size : Int)) = false := by simp; omega
    have HSS := Lib.hid h100
    have HMZ := Lib.hid hm0
    have HNZ := Lib.hid hn0
    have HAM := Lib.hid ham
    have HBN := Lib.hid hbn
    have HNO := Lib.hid hno
    clear hm0 hn0 ham hbn hno h100
    cases lv
    next =>
     by_cases hu : u = 1
     next =>
      subst hu
      by_cases hc : s = ⟨#[111, 109, 101, 103, 97, 50]⟩
      next =>
       subst hc
       have g_200 := Lib.hid hg9
       have K_200 := Lib.hid hK9
       have c_200 := Lib.hid hc9
       have E_200 := Lib.hid hE9
       have hM200 := hM9
       have hs200 := hs9
       clear hg9 hK9 hc9 hE9 hM9 hs9
       go_wp2_with fail
       clear ct1 ct2
       obtain ⟨M, eM⟩ : ∃ M, wr.heap.size = M := ⟨_, rfl⟩
       have HSM := Lib.hid (show ∀ wq, Below M wr wq → Below wr.heap.size wr wq from fun wq h => by rw [eM]; exact h)
       have HMR := Lib.hid eM
       have hS : Below M wr wr.drew := ⟨rfl, rfl, rfl, Nat.le_refl _, fun _ _ => rfl⟩
       have HWw := Lib.hid (show ∀ wq, Below M wr wq → wq.cell? ⟨g, o + k * 3, none⟩ = some (.int .i64 1) from fun wq h => HTw.out wq (below_more hM200 (HSM.out wq h) hs200))
       have HWc := Lib.hid (show ∀ wq, Below M wr wq → wq.cell? ⟨g, o + k * 3 + 1, none⟩ = some (.string ⟨#[111, 109, 101, 103, 97, 50]⟩) from fun wq h => HTc.out wq (below_more hM200 (HSM.out wq h) hs200))
       have HCc1 := Lib.hid (show ∀ wq, Below M wr wq → wq.cell? ⟨Gc, 1, none⟩ = some (.string ⟨#[111, 109, 101, 103, 97, 50]⟩) from fun wq h => VB.cell (VB.next c_200.out (HSM.out wq h)) 1 _ rfl)
       refine wp_region_held (S := fun wq => Below M wr wq) (by kernel_rfl) ?_
       show wpAnyH _ _ _ _ _ 19 _ _ wr.drew
       refine tkw 0 62 rfl rfl (by kernel_rfl) (.slice (some ⟨g, o, none⟩) LT ct) idq (fun _ => by kernel_rfl) hS ?_
       refine tkw 1 63 rfl rfl (by kernel_rfl) (.int .i64 (k : Int)) idq (fun _ => by kernel_rfl) hS ?_
       refine tkl 2 64 rfl rfl (by kernel_rfl) idq (yields_ix (by kernel_rfl) 54 _ _ rfl g o LT ct k 3 (k : Int) (by kernel_rfl) (by kernel_rfl) rfl HLT.out (o + k * 3) rfl (by kernel_rfl) (fun w => size_try w)) hS ?_
       refine tkw 3 65 rfl rfl (by kernel_rfl) (.pointer (some ⟨g, o + k * 3, none⟩)) idq (fun _ => by kernel_rfl) hS ?_
       refine tkl 4 66 rfl rfl (by kernel_rfl) idq (yields_cell (by kernel_rfl) (.int .i64 1) 3 _ rfl ⟨g, o + k * 3, none⟩ (by kernel_rfl) (fun w h => load_inty w _ _ h) (fun wq hq => HWw.out wq hq)) hS ?_
       refine tkw 5 67 rfl rfl (by kernel_rfl) (.int .i64 1) idq (fun _ => by kernel_rfl) hS ?_
       refine tkw 6 68 rfl rfl (by kernel_rfl) (.bool true) idq (fun _ => by kernel_rfl) hS ?_
       refine tkw 7 69 rfl rfl (by kernel_rfl) (.bool true) idq (fun _ => by kernel_rfl) hS ?_
       refine tkw 8 70 rfl rfl (by kernel_rfl) (.slice (some ⟨g, o, none⟩) LT ct) idq (fun _ => by kernel_rfl) hS ?_
       refine tkw 9 71 rfl rfl (by kernel_rfl) (.int .i64 (k : Int)) idq (fun _ => by kernel_rfl) hS ?_
       refine tkl 10 72 rfl rfl (by kernel_rfl) idq (yields_ix (by kernel_rfl) 54 _ _ rfl g o LT ct k 3 (k : Int) (by kernel_rfl) (by kernel_rfl) rfl HLT.out (o + k * 3) rfl (by kernel_rfl) (fun w => size_try w)) hS ?_
       refine tkw 11 73 rfl rfl (by kernel_rfl) (.pointer (some ⟨g, o + k * 3 + 1, none⟩)) idq (fun _ => by kernel_rfl) hS ?_
       refine tkl 12 74 rfl rfl (by kernel_rfl) idq (yields_cell (by kernel_rfl) (.string ⟨#[111, 109, 101, 103, 97, 50]⟩) 9 _ rfl ⟨g, o + k * 3 + 1, none⟩ (by kernel_rfl) (fun w h => load_stry w _ _ h) (fun wq hq => HWc.out wq hq)) hS ?_
       refine tkw 13 75 rfl rfl (by kernel_rfl) (.slice (some ⟨Gc, 0, none⟩) 2 2) idq (fun _ => by kernel_rfl) hS ?_
       refine tkw 14 76 rfl rfl (by kernel_rfl) (.int .i64 1) idq (fun _ => by kernel_rfl) hS ?_
       refine tkw 15 77 rfl rfl (by kernel_rfl) (.pointer (some ⟨Gc, 1, none⟩)) idq (fun _ => by kernel_rfl) hS ?_
       refine tkl 16 78 rfl rfl (by kernel_rfl) idq (yields_cell (by kernel_rfl) (.string ⟨#[111, 109, 101, 103, 97, 50]⟩) 9 _ rfl ⟨Gc, 1, none⟩ (by kernel_rfl) (fun w h => load_stry w _ _ h) (fun wq hq => HCc1.out wq hq)) hS ?_
       refine tkl 17 79 rfl rfl (by kernel_rfl) idq (yields_seq (by kernel_rfl) 9 _ _ _ rfl ⟨#[111, 109, 101, 103, 97, 50]⟩ ⟨#[111, 109, 101, 103, 97, 50]⟩ (by kernel_rfl) (by kernel_rfl) true (decide_eq_true rfl)) hS ?_
       refine tkw 18 80 rfl rfl (by kernel_rfl) (.bool true) idq (fun _ => by kernel_rfl) hS ?_
       refine wpAnyH_done (by kernel_rfl) ?_ _
       simp only [Act.put, List.getElem_toArray, List.getElem_cons_succ, List.getElem_cons_zero, List.setIfInBounds_toArray, List.set_cons_succ, List.set_cons_zero]
       obtain ⟨w201, ewn⟩ : ∃ x, wr.drew = x := ⟨_, rfl⟩
       rw [ewn] at hS ⊢
       clear ewn HWw HWc HCc1
       have hL := HSM.out w201 hS
       clear HSM HMR eM
       have hM201 : Below N w w201 := below_more hM200 hL hs200
       have hs201 : N ≤ w201.heap.size := Nat.le_trans hs200 (hL).size
       have g_201 := Lib.hid (g_200.out.next hL)
       clear g_200
       have K_201 := Lib.hid (K_200.out.under hL)
       clear K_200
       have c_201 := Lib.hid (c_200.out.next hL)
       clear c_200
       have E_201 := Lib.hid (E_200.out.below hL)
       clear E_200
       clear hM200 hs200
       clear hL hS
       go_wp2_with fail
       refine ⟨⟨k + 1, a, b, m, n, HLT.out, by go_num, g_201.out, HMZ.out, HNZ.out, HAM.out, HBN.out, HNO.out, K_201.out, c_201.out, E_201.out, hM201, hs201⟩, by have : k < LT := HLT.out; simp [intOf]; omega⟩
      next =>
       have HNC := Lib.hid (show decide (s = ⟨#[111, 109, 101, 103, 97, 50]⟩) = false from decide_eq_false hc)
       clear hc
       by_cases hrt : s.size < 4 ∨ 16 < s.size
       next =>
        have HRT := Lib.hid hrt
        clear hrt
        obtain ⟨a', b', m', n', ev, h1, h2, h3, h4, h5, h6, h7⟩ := ent_any K T0 T1 a b m n 1 s HK.out H0.out H1.out (by have := HSS.out; omega) HMZ.out HNZ.out HAM.out HBN.out
        have HEN := Lib.hid h1
        have HI1 := Lib.hid h2
        have HI2 := Lib.hid h3
        have HI3 := Lib.hid h4
        have HI4 := Lib.hid h5
        have HI5 := Lib.hid (h7 (fun h => by have := HRT.out; omega) HNO.out)
        have HNB := Lib.hid (show (a' && b') = false by rw [HI5.out]; simp)
        clear h1 h2 h3 h4 h5 h6 h7
        have g_200 := Lib.hid hg9
        have K_200 := Lib.hid hK9
        have c_200 := Lib.hid hc9
        have E_200 := Lib.hid hE9
        have hM200 := hM9
        have hs200 := hs9
        clear hg9 hK9 hc9 hE9 hM9 hs9
        go_wp2_with fail
        clear ct1 ct2
        obtain ⟨M, eM⟩ : ∃ M, wr.heap.size = M := ⟨_, rfl⟩
        have HSM := Lib.hid (show ∀ wq, Below M wr wq → Below wr.heap.size wr wq from fun wq h => by rw [eM]; exact h)
        have HMR := Lib.hid eM
        have hS : Below M wr wr.drew := ⟨rfl, rfl, rfl, Nat.le_refl _, fun _ _ => rfl⟩
        have HWw := Lib.hid (show ∀ wq, Below M wr wq → wq.cell? ⟨g, o + k * 3, none⟩ = some (.int .i64 1) from fun wq h => HTw.out wq (below_more hM200 (HSM.out wq h) hs200))
        have HWc := Lib.hid (show ∀ wq, Below M wr wq → wq.cell? ⟨g, o + k * 3 + 1, none⟩ = some (.string s) from fun wq h => HTc.out wq (below_more hM200 (HSM.out wq h) hs200))
        have HCc1 := Lib.hid (show ∀ wq, Below M wr wq → wq.cell? ⟨Gc, 1, none⟩ = some (.string ⟨#[111, 109, 101, 103, 97, 50]⟩) from fun wq h => VB.cell (VB.next c_200.out (HSM.out wq h)) 1 _ rfl)
        refine wp_region_held (S := fun wq => Below M wr wq) (by kernel_rfl) ?_
        show wpAnyH _ _ _ _ _ 19 _ _ wr.drew
        refine tkw 0 62 rfl rfl (by kernel_rfl) (.slice (some ⟨g, o, none⟩) LT ct) idq (fun _ => by kernel_rfl) hS ?_
        refine tkw 1 63 rfl rfl (by kernel_rfl) (.int .i64 (k : Int)) idq (fun _ => by kernel_rfl) hS ?_
        refine tkl 2 64 rfl rfl (by kernel_rfl) idq (yields_ix (by kernel_rfl) 54 _ _ rfl g o LT ct k 3 (k : Int) (by kernel_rfl) (by kernel_rfl) rfl HLT.out (o + k * 3) rfl (by kernel_rfl) (fun w => size_try w)) hS ?_
        refine tkw 3 65 rfl rfl (by kernel_rfl) (.pointer (some ⟨g, o + k * 3, none⟩)) idq (fun _ => by kernel_rfl) hS ?_
        refine tkl 4 66 rfl rfl (by kernel_rfl) idq (yields_cell (by kernel_rfl) (.int .i64 1) 3 _ rfl ⟨g, o + k * 3, none⟩ (by kernel_rfl) (fun w h => load_inty w _ _ h) (fun wq hq => HWw.out wq hq)) hS ?_
        refine tkw 5 67 rfl rfl (by kernel_rfl) (.int .i64 1) idq (fun _ => by kernel_rfl) hS ?_
        refine tkw 6 68 rfl rfl (by kernel_rfl) (.bool true) idq (fun _ => by kernel_rfl) hS ?_
        refine tkw 7 69 rfl rfl (by kernel_rfl) (.bool true) idq (fun _ => by kernel_rfl) hS ?_
        refine tkw 8 70 rfl rfl (by kernel_rfl) (.slice (some ⟨g, o, none⟩) LT ct) idq (fun _ => by kernel_rfl) hS ?_
        refine tkw 9 71 rfl rfl (by kernel_rfl) (.int .i64 (k : Int)) idq (fun _ => by kernel_rfl) hS ?_
        refine tkl 10 72 rfl rfl (by kernel_rfl) idq (yields_ix (by kernel_rfl) 54 _ _ rfl g o LT ct k 3 (k : Int) (by kernel_rfl) (by kernel_rfl) rfl HLT.out (o + k * 3) rfl (by kernel_rfl) (fun w => size_try w)) hS ?_
        refine tkw 11 73 rfl rfl (by kernel_rfl) (.pointer (some ⟨g, o + k * 3 + 1, none⟩)) idq (fun _ => by kernel_rfl) hS ?_
        refine tkl 12 74 rfl rfl (by kernel_rfl) idq (yields_cell (by kernel_rfl) (.string s) 9 _ rfl ⟨g, o + k * 3 + 1, none⟩ (by kernel_rfl) (fun w h => load_stry w _ _ h) (fun wq hq => HWc.out wq hq)) hS ?_
        refine tkw 13 75 rfl rfl (by kernel_rfl) (.slice (some ⟨Gc, 0, none⟩) 2 2) idq (fun _ => by kernel_rfl) hS ?_
        refine tkw 14 76 rfl rfl (by kernel_rfl) (.int .i64 1) idq (fun _ => by kernel_rfl) hS ?_
        refine tkw 15 77 rfl rfl (by kernel_rfl) (.pointer (some ⟨Gc, 1, none⟩)) idq (fun _ => by kernel_rfl) hS ?_
        refine tkl 16 78 rfl rfl (by kernel_rfl) idq (yields_cell (by kernel_rfl) (.string ⟨#[111, 109, 101, 103, 97, 50]⟩) 9 _ rfl ⟨Gc, 1, none⟩ (by kernel_rfl) (fun w h => load_stry w _ _ h) (fun wq hq => HCc1.out wq hq)) hS ?_
        refine tkl 17 79 rfl rfl (by kernel_rfl) idq (yields_seq (by kernel_rfl) 9 _ _ _ rfl s ⟨#[111, 109, 101, 103, 97, 50]⟩ (by kernel_rfl) (by kernel_rfl) false HNC.out) hS ?_
        refine tkw 18 80 rfl rfl (by kernel_rfl) (.bool false) idq (fun _ => by kernel_rfl) hS ?_
        refine wpAnyH_done (by kernel_rfl) ?_ _
        simp only [Act.put, List.getElem_toArray, List.getElem_cons_succ, List.getElem_cons_zero, List.setIfInBounds_toArray, List.set_cons_succ, List.set_cons_zero]
        obtain ⟨w201, ewn⟩ : ∃ x, wr.drew = x := ⟨_, rfl⟩
        rw [ewn] at hS ⊢
        clear ewn HWw HWc HCc1
        have hL := HSM.out w201 hS
        clear HSM HMR eM
        have hM201 : Below N w w201 := below_more hM200 hL hs200
        have hs201 : N ≤ w201.heap.size := Nat.le_trans hs200 (hL).size
        have g_201 := Lib.hid (g_200.out.next hL)
        clear g_200
        have K_201 := Lib.hid (K_200.out.under hL)
        clear K_200
        have c_201 := Lib.hid (c_200.out.next hL)
        clear c_200
        have E_201 := Lib.hid (E_200.out.below hL)
        clear E_200
        clear hM200 hs200
        clear hL hS
        go_wp2_with fail
        obtain ⟨M, eM⟩ : ∃ M, w201.heap.size = M := ⟨_, rfl⟩
        have HSM := Lib.hid (show ∀ wq, Below M w201 wq → Below w201.heap.size w201 wq from fun wq h => by rw [eM]; exact h)
        have HMR := Lib.hid eM
        have hS : Below M w201 w201.drew := ⟨rfl, rfl, rfl, Nat.le_refl _, fun _ _ => rfl⟩
        have HWw := Lib.hid (show ∀ wq, Below M w201 wq → wq.cell? ⟨g, o + k * 3, none⟩ = some (.int .i64 1) from fun wq h => HTw.out wq (below_more hM201 (HSM.out wq h) hs201))
        have HWc := Lib.hid (show ∀ wq, Below M w201 wq → wq.cell? ⟨g, o + k * 3 + 1, none⟩ = some (.string s) from fun wq h => HTc.out wq (below_more hM201 (HSM.out wq h) hs201))
        refine wp_region_held (S := fun wq => Below M w201 wq) (by kernel_rfl) ?_
        show wpAnyH _ _ _ _ _ 30 _ _ w201.drew
        refine tkw 0 81 rfl rfl (by kernel_rfl) (.slice (some ⟨g, o, none⟩) LT ct) idq (fun _ => by kernel_rfl) hS ?_
        refine tkw 1 82 rfl rfl (by kernel_rfl) (.int .i64 (k : Int)) idq (fun _ => by kernel_rfl) hS ?_
        refine tkl 2 83 rfl rfl (by kernel_rfl) idq (yields_ix (by kernel_rfl) 54 _ _ rfl g o LT ct k 3 (k : Int) (by kernel_rfl) (by kernel_rfl) rfl HLT.out (o + k * 3) rfl (by kernel_rfl) (fun w => size_try w)) hS ?_
        refine tkw 3 84 rfl rfl (by kernel_rfl) (.pointer (some ⟨g, o + k * 3, none⟩)) idq (fun _ => by kernel_rfl) hS ?_
        refine tkl 4 85 rfl rfl (by kernel_rfl) idq (yields_cell (by kernel_rfl) (.int .i64 1) 3 _ rfl ⟨g, o + k * 3, none⟩ (by kernel_rfl) (fun w h => load_inty w _ _ h) (fun wq hq => HWw.out wq hq)) hS ?_
        refine tkw 5 86 rfl rfl (by kernel_rfl) (.int .i64 1) idq (fun _ => by kernel_rfl) hS ?_
        refine tkw 6 87 rfl rfl (by kernel_rfl) (.bool true) idq (fun _ => by kernel_rfl) hS ?_
        refine tkw 7 88 rfl rfl (by kernel_rfl) (.bool true) idq (fun _ => by kernel_rfl) hS ?_
        refine tkw 8 89 rfl rfl (by kernel_rfl) (.slice (some ⟨g, o, none⟩) LT ct) idq (fun _ => by kernel_rfl) hS ?_
        refine tkw 9 90 rfl rfl (by kernel_rfl) (.int .i64 (k : Int)) idq (fun _ => by kernel_rfl) hS ?_
        refine tkl 10 91 rfl rfl (by kernel_rfl) idq (yields_ix (by kernel_rfl) 54 _ _ rfl g o LT ct k 3 (k : Int) (by kernel_rfl) (by kernel_rfl) rfl HLT.out (o + k * 3) rfl (by kernel_rfl) (fun w => size_try w)) hS ?_
        refine tkw 11 92 rfl rfl (by kernel_rfl) (.pointer (some ⟨g, o + k * 3 + 1, none⟩)) idq (fun _ => by kernel_rfl) hS ?_
        refine tkl 12 93 rfl rfl (by kernel_rfl) idq (yields_cell (by kernel_rfl) (.string s) 9 _ rfl ⟨g, o + k * 3 + 1, none⟩ (by kernel_rfl) (fun w h => load_stry w _ _ h) (fun wq hq => HWc.out wq hq)) hS ?_
        refine anyH_one 13 (by kernel_rfl) ?_
        refine opH_enter (some 94) rfl (by kernel_rfl) (by kernel_rfl) 29 #[.string s] (fun v wq => v = .bool false ∧ wq = w201.drew) (by kernel_rfl) ((rt24_no s w201.drew HRT.out).mono fun e wq ⟨q1, q2⟩ => ⟨_, q1, rfl, q2⟩) ?_
        rintro v9 wq ⟨rfl, rfl⟩
        refine ⟨hS, ?_⟩
        refine tkw 14 95 rfl rfl (by kernel_rfl) (.bool false) idq (fun _ => by kernel_rfl) hS ?_
        refine tkw 15 96 rfl rfl (by kernel_rfl) (.bool false) idq (fun _ => by kernel_rfl) hS ?_
        refine tkn 16 97 rfl rfl (by kernel_rfl) idq hS ?_
        refine tkn 17 98 rfl rfl (by kernel_rfl) idq hS ?_
        refine tkn 18 99 rfl rfl (by kernel_rfl) idq hS ?_
        refine tkn 19 100 rfl rfl (by kernel_rfl) idq hS ?_
        refine tkn 20 101 rfl rfl (by kernel_rfl) idq hS ?_
        refine tkn 21 102 rfl rfl (by kernel_rfl) idq hS ?_
        refine tkn 22 103 rfl rfl (by kernel_rfl) idq hS ?_
        refine tkn 23 104 rfl rfl (by kernel_rfl) idq hS ?_
        refine tkn 24 105 rfl rfl (by kernel_rfl) idq hS ?_
        refine tkn 25 106 rfl rfl (by kernel_rfl) idq hS ?_
        refine tkn 26 107 rfl rfl (by kernel_rfl) idq hS ?_
        refine tkn 27 108 rfl rfl (by kernel_rfl) idq hS ?_
        refine tkn 28 109 rfl rfl (by kernel_rfl) idq hS ?_
        refine tkw 29 110 rfl rfl (by kernel_rfl) (.bool false) idq (fun _ => by kernel_rfl) hS ?_
        refine wpAnyH_done (by kernel_rfl) ?_ _
        simp only [Act.put, List.getElem_toArray, List.getElem_cons_succ, List.getElem_cons_zero, List.setIfInBounds_toArray, List.set_cons_succ, List.set_cons_zero]
        obtain ⟨w202, ewn⟩ : ∃ x, w201.drew = x := ⟨_, rfl⟩
        rw [ewn] at hS ⊢
        clear ewn HWw HWc
        have hL := HSM.out w202 hS
        clear HSM HMR eM
        have hM202 : Below N w w202 := below_more hM201 hL hs201
        have hs202 : N ≤ w202.heap.size := Nat.le_trans hs201 (hL).size
        have g_202 := Lib.hid (g_201.out.next hL)
        clear g_201
        have K_202 := Lib.hid (K_201.out.under hL)
        clear K_201
        have c_202 := Lib.hid (c_201.out.next hL)
        clear c_201
        have E_202 := Lib.hid (E_201.out.below hL)
        clear E_201
        clear hM201 hs201
        clear hL hS
        go_wp2_with fail
        obtain ⟨M, eM⟩ : ∃ M, w202.heap.size = M := ⟨_, rfl⟩
        have HSM := Lib.hid (show ∀ wq, Below M w202 wq → Below w202.heap.size w202 wq from fun wq h => by rw [eM]; exact h)
        have HMR := Lib.hid eM
        have hS : Below M w202 w202.drew := ⟨rfl, rfl, rfl, Nat.le_refl _, fun _ _ => rfl⟩
        have HWw := Lib.hid (show ∀ wq, Below M w202 wq → wq.cell? ⟨g, o + k * 3, none⟩ = some (.int .i64 1) from fun wq h => HTw.out wq (below_more hM202 (HSM.out wq h) hs202))
        have HWc := Lib.hid (show ∀ wq, Below M w202 wq → wq.cell? ⟨g, o + k * 3 + 1, none⟩ = some (.string s) from fun wq h => HTc.out wq (below_more hM202 (HSM.out wq h) hs202))
        have HGk := Lib.hid (show ∀ wq, Below M w202 wq → GB wq Gg gdt K T0 T1 a b m n from fun wq h => g_202.out.next (HSM.out wq h))
        refine wp_region_held (S := fun wq => Below M w202 wq) (by kernel_rfl) ?_
        show wpAnyH _ _ _ _ _ 18 _ _ w202.drew
        refine tkl 0 112 rfl rfl (by kernel_rfl) idq (yields_gd (by kernel_rfl) _ rfl Gg gdt K T0 T1 a b m n (by kernel_rfl) (fun wq hq => HGk.out wq hq) HK.out H0.out H1.out) hS ?_
        refine tkw 1 113 rfl rfl (by kernel_rfl) (.slice (some ⟨g, o, none⟩) LT ct) idq (fun _ => by kernel_rfl) hS ?_
        refine tkw 2 114 rfl rfl (by kernel_rfl) (.int .i64 (k : Int)) idq (fun _ => by kernel_rfl) hS ?_
        refine tkl 3 115 rfl rfl (by kernel_rfl) idq (yields_ix (by kernel_rfl) 54 _ _ rfl g o LT ct k 3 (k : Int) (by kernel_rfl) (by kernel_rfl) rfl HLT.out (o + k * 3) rfl (by kernel_rfl) (fun w => size_try w)) hS ?_
        refine tkw 4 116 rfl rfl (by kernel_rfl) (.pointer (some ⟨g, o + k * 3, none⟩)) idq (fun _ => by kernel_rfl) hS ?_
        refine tkl 5 117 rfl rfl (by kernel_rfl) idq (yields_cell (by kernel_rfl) (.int .i64 1) 3 _ rfl ⟨g, o + k * 3, none⟩ (by kernel_rfl) (fun w h => load_inty w _ _ h) (fun wq hq => HWw.out wq hq)) hS ?_
        refine tkw 6 118 rfl rfl (by kernel_rfl) (.slice (some ⟨g, o, none⟩) LT ct) idq (fun _ => by kernel_rfl) hS ?_
        refine tkw 7 119 rfl rfl (by kernel_rfl) (.int .i64 (k : Int)) idq (fun _ => by kernel_rfl) hS ?_
        refine tkl 8 120 rfl rfl (by kernel_rfl) idq (yields_ix (by kernel_rfl) 54 _ _ rfl g o LT ct k 3 (k : Int) (by kernel_rfl) (by kernel_rfl) rfl HLT.out (o + k * 3) rfl (by kernel_rfl) (fun w => size_try w)) hS ?_
        refine tkw 9 121 rfl rfl (by kernel_rfl) (.pointer (some ⟨g, o + k * 3 + 1, none⟩)) idq (fun _ => by kernel_rfl) hS ?_
        refine tkl 10 122 rfl rfl (by kernel_rfl) idq (yields_cell (by kernel_rfl) (.string s) 9 _ rfl ⟨g, o + k * 3 + 1, none⟩ (by kernel_rfl) (fun w h => load_stry w _ _ h) (fun wq hq => HWc.out wq hq)) hS ?_
        apply share (fun (wz : World) (gx : Nat) => Below M w202 wz ∧ GB wz gx gdt K T0 T1 a' b' m' n' ∧ M ≤ gx)
        case main =>
         intro key
         refine anyH_two 11 15 (by kernel_rfl) ?_ ?_
         next =>
          refine opH_enter (some 123) rfl (by kernel_rfl) (by kernel_rfl) 31 #[.agg (ga K T0 T1 a b m n), .int .i64 1, .string s] (fun v wq => v = .tuple #[.agg (ga K T0 T1 a' b' m' n'), ev] ∧ Below w202.drew.heap.size w202.drew wq) (by kernel_rfl) ((HEN.out w202.drew).mono fun e wq ⟨q1, q2⟩ => ⟨_, q1, rfl, q2⟩) ?_
          rintro v9 v1 ⟨rfl, hL⟩
          have hS := hmr hS hL HMR.out
          refine ⟨hS, ?_⟩
          refine tkw 12 111 rfl rfl (by kernel_rfl) (.tuple #[.agg (ga K T0 T1 a' b' m' n'), ev]) idq (fun _ => by kernel_rfl) hS ?_
          refine tkw 13 124 rfl rfl (by kernel_rfl) (.agg (ga K T0 T1 a' b' m' n')) idq (fun _ => by kernel_rfl) hS ?_
          refine tkw 14 125 rfl rfl (by kernel_rfl) (ev) idq (fun _ => by kernel_rfl) hS ?_
          refine anyH_one 15 (by kernel_rfl) ?_
          refine ⟨?_⟩
          refine wpOp_alloc rfl (by kernel_rfl) gdt rfl (.agg (ga zg zg zg false false 0 0)) 52 (fun _ => by kernel_rfl) (by kernel_rfl) ?_
          intro v2 hRx hGa hza
          obtain ⟨gx, egx⟩ : ∃ g, v1.heap.size = g := ⟨_, rfl⟩
          rw [egx] at hRx ⊢
          have hgx : M ≤ gx := by have := hS.size; have := HMR.out; omega
          have hS : Below M w202 v2 := below_none hS (by have := hS.size; have := HMR.out; omega) hGa
          refine ⟨hS, ?_⟩
          refine anyH_one 16 (by kernel_rfl) ?_
          refine ⟨?_⟩
          refine wpOp_storev rfl (by kernel_rfl) gdt _ _ rfl gx gdt 52 (gcs K T0 T1 a' b' m' n') (by kernel_rfl) (by kernel_rfl) hRx (gcs_one _ _ _ _ _ _ _) (gcs_len _ _ _ _ _ _ _ HK.out H0.out H1.out) gdt_i ?_
          intro wz hBx hGx hzx
          have hS : Below M w202 wz := below_new hS (by have := hS.size; have := HMR.out; omega) hGx hgx
          refine ⟨hS, ?_⟩
          refine tkw 17 13 rfl rfl (by kernel_rfl) (ev) idq (fun _ => by kernel_rfl) hS ?_
          refine wpAnyH_done (by kernel_rfl) ?_ _
          simp only [Act.put, List.getElem_toArray, List.getElem_cons_succ, List.getElem_cons_zero, List.setIfInBounds_toArray, List.set_cons_succ, List.set_cons_zero]
          exact key wz gx ⟨hS, hBx, hgx⟩
         next =>
          refine ⟨?_⟩
          refine wpOp_alloc rfl (by kernel_rfl) gdt rfl (.agg (ga zg zg zg false false 0 0)) 52 (fun _ => by kernel_rfl) (by kernel_rfl) ?_
          intro v1 hRx hGa hza
          obtain ⟨gx, egx⟩ : ∃ g, w202.drew.heap.size = g := ⟨_, rfl⟩
          rw [egx] at hRx ⊢
          have hgx : M ≤ gx := by have := hS.size; have := HMR.out; omega
          have hS : Below M w202 v1 := below_none hS (by have := hS.size; have := HMR.out; omega) hGa
          refine ⟨hS, ?_⟩
          refine anyH_one 11 (by kernel_rfl) ?_
          refine opH_enter (some 123) rfl (by kernel_rfl) (by kernel_rfl) 31 #[.agg (ga K T0 T1 a b m n), .int .i64 1, .string s] (fun v wq => v = .tuple #[.agg (ga K T0 T1 a' b' m' n'), ev] ∧ Below v1.heap.size v1 wq) (by kernel_rfl) ((HEN.out v1).mono fun e wq ⟨q1, q2⟩ => ⟨_, q1, rfl, q2⟩) ?_
          rintro v9 v2 ⟨rfl, hL⟩
          have hRx := hRx.below hL hRx.lt
          have hS := hmr hS hL HMR.out
          refine ⟨hS, ?_⟩
          refine tkw 12 111 rfl rfl (by kernel_rfl) (.tuple #[.agg (ga K T0 T1 a' b' m' n'), ev]) idq (fun _ => by kernel_rfl) hS ?_
          refine tkw 13 124 rfl rfl (by kernel_rfl) (.agg (ga K T0 T1 a' b' m' n')) idq (fun _ => by kernel_rfl) hS ?_
          refine tkw 14 125 rfl rfl (by kernel_rfl) (ev) idq (fun _ => by kernel_rfl) hS ?_
          refine anyH_one 16 (by kernel_rfl) ?_
          refine ⟨?_⟩
          refine wpOp_storev rfl (by kernel_rfl) gdt _ _ rfl gx gdt 52 (gcs K T0 T1 a' b' m' n') (by kernel_rfl) (by kernel_rfl) hRx (gcs_one _ _ _ _ _ _ _) (gcs_len _ _ _ _ _ _ _ HK.out H0.out H1.out) gdt_i ?_
          intro wz hBx hGx hzx
          have hS : Below M w202 wz := below_new hS (by have := hS.size; have := HMR.out; omega) hGx hgx
          refine ⟨hS, ?_⟩
          refine tkw 17 13 rfl rfl (by kernel_rfl) (ev) idq (fun _ => by kernel_rfl) hS ?_
          refine wpAnyH_done (by kernel_rfl) ?_ _
          simp only [Act.put, List.getElem_toArray, List.getElem_cons_succ, List.getElem_cons_zero, List.setIfInBounds_toArray, List.set_cons_succ, List.set_cons_zero]
          exact key wz gx ⟨hS, hBx, hgx⟩
        rintro wz gx ⟨hS, hBx, hgx⟩
        have hL := HSM.out wz hS
        have hgB : GB wz gx gdt K T0 T1 a' b' m' n' := hBx
        have hgM := Lib.hid (show M ≤ gx ∧ M = w202.heap.size from ⟨hgx, HMR.out.symm⟩)
        obtain ⟨Gh, eGh⟩ : ∃ g, gx = g := ⟨_, rfl⟩
        rw [eGh] at hgB hgM ⊢
        obtain ⟨w203, ewz⟩ : ∃ x, wz = x := ⟨_, rfl⟩
        rw [ewz] at hL hgB ⊢
        clear ewz eGh hBx hgx
        have HHG := Lib.hid (show Gg < Gh from by have h1 := g_202.out.lt; have h2 := hgM.out; have h3 := HMR.out; omega)
        clear hgM HWw HWc HGk
        clear HSM HMR hS eM
        have hM203 : Below N w w203 := below_more hM202 hL hs202
        have hs203 : N ≤ w203.heap.size := Nat.le_trans hs202 (hL).size
        have g_203 := Lib.hid (g_202.out.next hL)
        clear g_202
        have K_203 := Lib.hid (K_202.out.under hL)
        clear K_202
        have c_203 := Lib.hid (c_202.out.next hL)
        clear c_202
        have E_203 := Lib.hid (E_202.out.below hL)
        clear E_202
        clear hM202 hs202
        have h_203 := Lib.hid (hgB)
        clear hL hgB
        go_wp2_with (first | ((with_reducible show wpList _ _ _ _ _ w203); refine load_gd (w := w203) (by rfl) _ rfl Gh gdt K T0 T1 a' b' m' n' (by rfl) h_203.out HK.out H0.out H1.out ?_) | ((with_reducible show wpList _ _ _ _ _ w203); refine store_vr (w := w203) rfl gdt _ _ rfl Gg gdt 52 (gcs K T0 T1 a' b' m' n') (by rfl) (by rfl) (VB.row g_203.out.vb (gcs_len _ _ _ _ _ _ _ HK.out H0.out H1.out)) (gcs_one _ _ _ _ _ _ _) (gcs_len _ _ _ _ _ _ _ HK.out H0.out H1.out) gdt_i ?_; intro w204 hB hG hz; have hB2 : GB w204 Gg gdt K T0 T1 a' b' m' n' := (hB); have hM204 : Below N w w204 := below_new hM203 hs203 hG HNG.out; have hs204 : N ≤ w204.heap.size := (by rw [hz]; exact hs203); have E_204 := Lib.hid (HE0.out.under hM204 HN.out); have K_204 := Lib.hid (blk_old K_203.out hG (by have := HCG.out; have := HCN.out; omega)); have c_204 := Lib.hid (VB.old c_203.out hG (by have := HCG.out; simp; omega)); have g_204 := Lib.hid hB2; clear hB2 hB hG hz g_203 K_203 c_203 E_203 h_203 hM203 hs203) | ((with_reducible show wpList _ _ _ _ _ w204); refine load_gd (w := w204) (by rfl) _ rfl Gg gdt K T0 T1 a' b' m' n' (by rfl) g_204.out HK.out H0.out H1.out ?_) | (go_at_call 32; (with_reducible show Calls _ _ _ w204 _); refine (BothG_no K T0 T1 a' b' m' n' w204 HK.out H0.out H1.out HNB.out).mono ?_; rintro e w205 ⟨vb, rfl, hV, hL⟩; obtain ⟨vT, vX, rfl⟩ := hV.form; clear hV; have hM205 : Below N w w205 := below_more hM204 hL hs204; have hs205 : N ≤ w205.heap.size := Nat.le_trans hs204 (hL).size; have g_205 := Lib.hid (g_204.out.next hL); clear g_204; have K_205 := Lib.hid (K_204.out.under hL); clear K_204; have c_205 := Lib.hid (c_204.out.next hL); clear c_204; have E_205 := Lib.hid (E_204.out.below hL); clear E_204; clear hM204 hs204; clear hL))
        refine ⟨⟨k + 1, a', b', m', n', HLT.out, by go_num, g_205.out, HI1.out, HI2.out, HI3.out, HI4.out, HI5.out, K_205.out, c_205.out, E_205.out, hM205, hs205⟩, by have : k < LT := HLT.out; simp [intOf]; omega⟩
       next =>
        have HR1 := Lib.hid (show 4 ≤ s.size by omega)
        have HR2 := Lib.hid (show s.size ≤ 16 by omega)
        clear hrt
        by_cases ht : ptag K 1 s = T1
        next =>
         have HTE := Lib.hid (show (ptag K 1 s == T1) = true by rw [ht]; exact beq_self_eq_true _)
         clear ht
         have g_200 := Lib.hid hg9
         have K_200 := Lib.hid hK9
         have c_200 := Lib.hid hc9
         have E_200 := Lib.hid hE9
         have hM200 := hM9
         have hs200 := hs9
         clear hg9 hK9 hc9 hE9 hM9 hs9
         go_wp2_with fail
         clear ct1 ct2
         obtain ⟨M, eM⟩ : ∃ M, wr.heap.size = M := ⟨_, rfl⟩
         have HSM := Lib.hid (show ∀ wq, Below M wr wq → Below wr.heap.size wr wq from fun wq h => by rw [eM]; exact h)
         have HMR := Lib.hid eM
         have hS : Below M wr wr.drew := ⟨rfl, rfl, rfl, Nat.le_refl _, fun _ _ => rfl⟩
         have HWw := Lib.hid (show ∀ wq, Below M wr wq → wq.cell? ⟨g, o + k * 3, none⟩ = some (.int .i64 1) from fun wq h => HTw.out wq (below_more hM200 (HSM.out wq h) hs200))
         have HWc := Lib.hid (show ∀ wq, Below M wr wq → wq.cell? ⟨g, o + k * 3 + 1, none⟩ = some (.string s) from fun wq h => HTc.out wq (below_more hM200 (HSM.out wq h) hs200))
         have HCc1 := Lib.hid (show ∀ wq, Below M wr wq → wq.cell? ⟨Gc, 1, none⟩ = some (.string ⟨#[111, 109, 101, 103, 97, 50]⟩) from fun wq h => VB.cell (VB.next c_200.out (HSM.out wq h)) 1 _ rfl)
         refine wp_region_held (S := fun wq => Below M wr wq) (by kernel_rfl) ?_
         show wpAnyH _ _ _ _ _ 19 _ _ wr.drew
         refine tkw 0 62 rfl rfl (by kernel_rfl) (.slice (some ⟨g, o, none⟩) LT ct) idq (fun _ => by kernel_rfl) hS ?_
         refine tkw 1 63 rfl rfl (by kernel_rfl) (.int .i64 (k : Int)) idq (fun _ => by kernel_rfl) hS ?_
         refine tkl 2 64 rfl rfl (by kernel_rfl) idq (yields_ix (by kernel_rfl) 54 _ _ rfl g o LT ct k 3 (k : Int) (by kernel_rfl) (by kernel_rfl) rfl HLT.out (o + k * 3) rfl (by kernel_rfl) (fun w => size_try w)) hS ?_
         refine tkw 3 65 rfl rfl (by kernel_rfl) (.pointer (some ⟨g, o + k * 3, none⟩)) idq (fun _ => by kernel_rfl) hS ?_
         refine tkl 4 66 rfl rfl (by kernel_rfl) idq (yields_cell (by kernel_rfl) (.int .i64 1) 3 _ rfl ⟨g, o + k * 3, none⟩ (by kernel_rfl) (fun w h => load_inty w _ _ h) (fun wq hq => HWw.out wq hq)) hS ?_
         refine tkw 5 67 rfl rfl (by kernel_rfl) (.int .i64 1) idq (fun _ => by kernel_rfl) hS ?_
         refine tkw 6 68 rfl rfl (by kernel_rfl) (.bool true) idq (fun _ => by kernel_rfl) hS ?_
         refine tkw 7 69 rfl rfl (by kernel_rfl) (.bool true) idq (fun _ => by kernel_rfl) hS ?_
         refine tkw 8 70 rfl rfl (by kernel_rfl) (.slice (some ⟨g, o, none⟩) LT ct) idq (fun _ => by kernel_rfl) hS ?_
         refine tkw 9 71 rfl rfl (by kernel_rfl) (.int .i64 (k : Int)) idq (fun _ => by kernel_rfl) hS ?_
         refine tkl 10 72 rfl rfl (by kernel_rfl) idq (yields_ix (by kernel_rfl) 54 _ _ rfl g o LT ct k 3 (k : Int) (by kernel_rfl) (by kernel_rfl) rfl HLT.out (o + k * 3) rfl (by kernel_rfl) (fun w => size_try w)) hS ?_
         refine tkw 11 73 rfl rfl (by kernel_rfl) (.pointer (some ⟨g, o + k * 3 + 1, none⟩)) idq (fun _ => by kernel_rfl) hS ?_
         refine tkl 12 74 rfl rfl (by kernel_rfl) idq (yields_cell (by kernel_rfl) (.string s) 9 _ rfl ⟨g, o + k * 3 + 1, none⟩ (by kernel_rfl) (fun w h => load_stry w _ _ h) (fun wq hq => HWc.out wq hq)) hS ?_
         refine tkw 13 75 rfl rfl (by kernel_rfl) (.slice (some ⟨Gc, 0, none⟩) 2 2) idq (fun _ => by kernel_rfl) hS ?_
         refine tkw 14 76 rfl rfl (by kernel_rfl) (.int .i64 1) idq (fun _ => by kernel_rfl) hS ?_
         refine tkw 15 77 rfl rfl (by kernel_rfl) (.pointer (some ⟨Gc, 1, none⟩)) idq (fun _ => by kernel_rfl) hS ?_
         refine tkl 16 78 rfl rfl (by kernel_rfl) idq (yields_cell (by kernel_rfl) (.string ⟨#[111, 109, 101, 103, 97, 50]⟩) 9 _ rfl ⟨Gc, 1, none⟩ (by kernel_rfl) (fun w h => load_stry w _ _ h) (fun wq hq => HCc1.out wq hq)) hS ?_
         refine tkl 17 79 rfl rfl (by kernel_rfl) idq (yields_seq (by kernel_rfl) 9 _ _ _ rfl s ⟨#[111, 109, 101, 103, 97, 50]⟩ (by kernel_rfl) (by kernel_rfl) false HNC.out) hS ?_
         refine tkw 18 80 rfl rfl (by kernel_rfl) (.bool false) idq (fun _ => by kernel_rfl) hS ?_
         refine wpAnyH_done (by kernel_rfl) ?_ _
         simp only [Act.put, List.getElem_toArray, List.getElem_cons_succ, List.getElem_cons_zero, List.setIfInBounds_toArray, List.set_cons_succ, List.set_cons_zero]
         obtain ⟨w201, ewn⟩ : ∃ x, wr.drew = x := ⟨_, rfl⟩
         rw [ewn] at hS ⊢
         clear ewn HWw HWc HCc1
         have hL := HSM.out w201 hS
         clear HSM HMR eM
         have hM201 : Below N w w201 := below_more hM200 hL hs200
         have hs201 : N ≤ w201.heap.size := Nat.le_trans hs200 (hL).size
         have g_201 := Lib.hid (g_200.out.next hL)
         clear g_200
         have K_201 := Lib.hid (K_200.out.under hL)
         clear K_200
         have c_201 := Lib.hid (c_200.out.next hL)
         clear c_200
         have E_201 := Lib.hid (E_200.out.below hL)
         clear E_200
         clear hM200 hs200
         clear hL hS
         go_wp2_with fail
         obtain ⟨M, eM⟩ : ∃ M, w201.heap.size = M := ⟨_, rfl⟩
         have HSM := Lib.hid (show ∀ wq, Below M w201 wq → Below w201.heap.size w201 wq from fun wq h => by rw [eM]; exact h)
         have HMR := Lib.hid eM
         have hS : Below M w201 w201.drew := ⟨rfl, rfl, rfl, Nat.le_refl _, fun _ _ => rfl⟩
         have HWw := Lib.hid (show ∀ wq, Below M w201 wq → wq.cell? ⟨g, o + k * 3, none⟩ = some (.int .i64 1) from fun wq h => HTw.out wq (below_more hM201 (HSM.out wq h) hs201))
         have HWc := Lib.hid (show ∀ wq, Below M w201 wq → wq.cell? ⟨g, o + k * 3 + 1, none⟩ = some (.string s) from fun wq h => HTc.out wq (below_more hM201 (HSM.out wq h) hs201))
         have HKk := Lib.hid (show ∀ wq, Below M w201 wq → Blk wq N 53 K from fun wq h => K_201.out.under (HSM.out wq h))
         have HGk := Lib.hid (show ∀ wq, Below M w201 wq → GB wq Gg gdt K T0 T1 a b m n from fun wq h => g_201.out.next (HSM.out wq h))
         refine wp_region_held (S := fun wq => Below M w201 wq) (by kernel_rfl) ?_
         show wpAnyH _ _ _ _ _ 30 _ _ w201.drew
         refine tkw 0 81 rfl rfl (by kernel_rfl) (.slice (some ⟨g, o, none⟩) LT ct) idq (fun _ => by kernel_rfl) hS ?_
         refine tkw 1 82 rfl rfl (by kernel_rfl) (.int .i64 (k : Int)) idq (fun _ => by kernel_rfl) hS ?_
         refine tkl 2 83 rfl rfl (by kernel_rfl) idq (yields_ix (by kernel_rfl) 54 _ _ rfl g o LT ct k 3 (k : Int) (by kernel_rfl) (by kernel_rfl) rfl HLT.out (o + k * 3) rfl (by kernel_rfl) (fun w => size_try w)) hS ?_
         refine tkw 3 84 rfl rfl (by kernel_rfl) (.pointer (some ⟨g, o + k * 3, none⟩)) idq (fun _ => by kernel_rfl) hS ?_
         refine tkl 4 85 rfl rfl (by kernel_rfl) idq (yields_cell (by kernel_rfl) (.int .i64 1) 3 _ rfl ⟨g, o + k * 3, none⟩ (by kernel_rfl) (fun w h => load_inty w _ _ h) (fun wq hq => HWw.out wq hq)) hS ?_
         refine tkw 5 86 rfl rfl (by kernel_rfl) (.int .i64 1) idq (fun _ => by kernel_rfl) hS ?_
         refine tkw 6 87 rfl rfl (by kernel_rfl) (.bool true) idq (fun _ => by kernel_rfl) hS ?_
         refine tkw 7 88 rfl rfl (by kernel_rfl) (.bool true) idq (fun _ => by kernel_rfl) hS ?_
         refine tkw 8 89 rfl rfl (by kernel_rfl) (.slice (some ⟨g, o, none⟩) LT ct) idq (fun _ => by kernel_rfl) hS ?_
         refine tkw 9 90 rfl rfl (by kernel_rfl) (.int .i64 (k : Int)) idq (fun _ => by kernel_rfl) hS ?_
         refine tkl 10 91 rfl rfl (by kernel_rfl) idq (yields_ix (by kernel_rfl) 54 _ _ rfl g o LT ct k 3 (k : Int) (by kernel_rfl) (by kernel_rfl) rfl HLT.out (o + k * 3) rfl (by kernel_rfl) (fun w => size_try w)) hS ?_
         refine tkw 11 92 rfl rfl (by kernel_rfl) (.pointer (some ⟨g, o + k * 3 + 1, none⟩)) idq (fun _ => by kernel_rfl) hS ?_
         refine tkl 12 93 rfl rfl (by kernel_rfl) idq (yields_cell (by kernel_rfl) (.string s) 9 _ rfl ⟨g, o + k * 3 + 1, none⟩ (by kernel_rfl) (fun w h => load_stry w _ _ h) (fun wq hq => HWc.out wq hq)) hS ?_
         refine anyH_one 13 (by kernel_rfl) ?_
         refine opH_enter (some 94) rfl (by kernel_rfl) (by kernel_rfl) 29 #[.string s] (fun v wq => v = .bool true ∧ wq = w201.drew) (by kernel_rfl) ((rt24_yes s w201.drew HR1.out HR2.out).mono fun e wq ⟨q1, q2⟩ => ⟨_, q1, rfl, q2⟩) ?_
         rintro v9 wq ⟨rfl, rfl⟩
         refine ⟨hS, ?_⟩
         refine tkw 14 95 rfl rfl (by kernel_rfl) (.bool true) idq (fun _ => by kernel_rfl) hS ?_
         refine tkw 15 96 rfl rfl (by kernel_rfl) (.bool true) idq (fun _ => by kernel_rfl) hS ?_
         refine tkl 16 97 rfl rfl (by kernel_rfl) idq (yields_load (by kernel_rfl) 53 _ rfl N 0 16 5 K (by kernel_rfl) (fun wq hq => (HKk.out wq hq).rd0) HK.out (by kernel_rfl) (by kernel_rfl)) hS ?_
         refine tkw 17 98 rfl rfl (by kernel_rfl) (.int .i64 1) idq (fun _ => by kernel_rfl) hS ?_
         refine tkw 18 99 rfl rfl (by kernel_rfl) (.slice (some ⟨g, o, none⟩) LT ct) idq (fun _ => by kernel_rfl) hS ?_
         refine tkw 19 100 rfl rfl (by kernel_rfl) (.int .i64 (k : Int)) idq (fun _ => by kernel_rfl) hS ?_
         refine tkl 20 101 rfl rfl (by kernel_rfl) idq (yields_ix (by kernel_rfl) 54 _ _ rfl g o LT ct k 3 (k : Int) (by kernel_rfl) (by kernel_rfl) rfl HLT.out (o + k * 3) rfl (by kernel_rfl) (fun w => size_try w)) hS ?_
         refine tkw 21 102 rfl rfl (by kernel_rfl) (.pointer (some ⟨g, o + k * 3 + 1, none⟩)) idq (fun _ => by kernel_rfl) hS ?_
         refine tkl 22 103 rfl rfl (by kernel_rfl) idq (yields_cell (by kernel_rfl) (.string s) 9 _ rfl ⟨g, o + k * 3 + 1, none⟩ (by kernel_rfl) (fun w h => load_stry w _ _ h) (fun wq hq => HWc.out wq hq)) hS ?_
         refine tkw 24 105 rfl rfl (by kernel_rfl) (.int .i64 1) idq (fun _ => by kernel_rfl) hS ?_
         refine tkw 25 106 rfl rfl (by kernel_rfl) (.pointer (some ⟨Gg, 16, none⟩)) idq (fun _ => by kernel_rfl) hS ?_
         refine tkw 26 107 rfl rfl (by kernel_rfl) (.pointer (some ⟨Gg, 32, none⟩)) idq (fun _ => by kernel_rfl) hS ?_
         refine tkw 27 108 rfl rfl (by kernel_rfl) (.slice (some ⟨Gg, 32, none⟩) 16 16) idq (fun _ => by kernel_rfl) hS ?_
         refine anyH_one 23 (by kernel_rfl) ?_
         refine opH_enter (some 104) rfl (by kernel_rfl) (by kernel_rfl) 30 #[.agg (Bs K), .int .i64 1, .string s] (fun v wq => SlB wq v (ptag K 1 s) ∧ Below w201.drew.heap.size w201.drew wq) (by kernel_rfl) ((rtag_any K 1 1 s w201.drew rfl HK.out (by have := HSS.out; omega)).mono fun e wq ⟨vd, q1, q2, q3⟩ => ⟨vd, q1, q2, q3⟩) ?_
         rintro vt v6 ⟨hD, hL⟩
         have hS := hmr hS hL HMR.out
         refine ⟨hS, ?_⟩
         refine anyH_one 28 (by kernel_rfl) ?_
         refine opH_enter (some 109) rfl (by kernel_rfl) (by kernel_rfl) 18 #[vt, .slice (some ⟨Gg, 32, none⟩) 16 16] (fun v wq => v = .bool true ∧ Below v6.heap.size v6 wq) (by kernel_rfl) ((Same_any _ _ (ptag K 1 s) T1 v6 hD (VB.rdS (cs := []) ((HGk.out v6 hS).tag1 HK.out H0.out) H1.out) (by rw [ptag_len]; decide)).mono fun e wq ⟨q1, q2⟩ => ⟨_, q1, by rw [HTE.out], q2.below0⟩) ?_
         rintro v9 v7 ⟨rfl, hL⟩
         have hS := hmr hS hL HMR.out
         refine ⟨hS, ?_⟩
         refine tkw 29 110 rfl rfl (by kernel_rfl) (.bool true) idq (fun _ => by kernel_rfl) hS ?_
         refine wpAnyH_done (by kernel_rfl) ?_ _
         simp only [Act.put, List.getElem_toArray, List.getElem_cons_succ, List.getElem_cons_zero, List.setIfInBounds_toArray, List.set_cons_succ, List.set_cons_zero]
         obtain ⟨w202, ewn⟩ : ∃ x, v7 = x := ⟨_, rfl⟩
         rw [ewn] at hS ⊢
         clear ewn HWw HWc HKk HGk hD hL
         have hL := HSM.out w202 hS
         clear HSM HMR eM
         have hM202 : Below N w w202 := below_more hM201 hL hs201
         have hs202 : N ≤ w202.heap.size := Nat.le_trans hs201 (hL).size
         have g_202 := Lib.hid (g_201.out.next hL)
         clear g_201
         have K_202 := Lib.hid (K_201.out.under hL)
         clear K_201
         have c_202 := Lib.hid (c_201.out.next hL)
         clear c_201
         have E_202 := Lib.hid (E_201.out.below hL)
         clear E_201
         clear hM201 hs201
         clear hL hS
         go_wp2_with fail
         go_ret
         exact ⟨rfl, by first | exact hM202 | (rw [HN.out]; exact hM202)⟩
        next =>
         have HTE := Lib.hid (show (ptag K 1 s == T1) = false from beq_eq_false_iff_ne.2 ht)
         have HTT := Lib.hid ht
         clear ht
         obtain ⟨a', b', m', n', ev, h1, h2, h3, h4, h5, h6, h7⟩ := ent_any K T0 T1 a b m n 1 s HK.out H0.out H1.out (by have := HSS.out; omega) HMZ.out HNZ.out HAM.out HBN.out
         have HEN := Lib.hid h1
         have HI1 := Lib.hid h2
         have HI2 := Lib.hid h3
         have HI3 := Lib.hid h4
         have HI4 := Lib.hid h5
         have HI5 := Lib.hid (h7 (fun h => HTT.out h.2.2.2) HNO.out)
         have HNB := Lib.hid (show (a' && b') = false by rw [HI5.out]; simp)
         clear h1 h2 h3 h4 h5 h6 h7
         have g_200 := Lib.hid hg9
         have K_200 := Lib.hid hK9
         have c_200 := Lib.hid hc9
         have E_200 := Lib.hid hE9
         have hM200 := hM9
         have hs200 := hs9
         clear hg9 hK9 hc9 hE9 hM9 hs9
         go_wp2_with fail
         clear ct1 ct2
         obtain ⟨M, eM⟩ : ∃ M, wr.heap.size = M := ⟨_, rfl⟩
         have HSM := Lib.hid (show ∀ wq, Below M wr wq → Below wr.heap.size wr wq from fun wq h => by rw [eM]; exact h)
         have HMR := Lib.hid eM
         have hS : Below M wr wr.drew := ⟨rfl, rfl, rfl, Nat.le_refl _, fun _ _ => rfl⟩
         have HWw := Lib.hid (show ∀ wq, Below M wr wq → wq.cell? ⟨g, o + k * 3, none⟩ = some (.int .i64 1) from fun wq h => HTw.out wq (below_more hM200 (HSM.out wq h) hs200))
         have HWc := Lib.hid (show ∀ wq, Below M wr wq → wq.cell? ⟨g, o + k * 3 + 1, none⟩ = some (.string s) from fun wq h => HTc.out wq (below_more hM200 (HSM.out wq h) hs200))
         have HCc1 := Lib.hid (show ∀ wq, Below M wr wq → wq.cell? ⟨Gc, 1, none⟩ = some (.string ⟨#[111, 109, 101, 103, 97, 50]⟩) from fun wq h => VB.cell (VB.next c_200.out (HSM.out wq h)) 1 _ rfl)
         refine wp_region_held (S := fun wq => Below M wr wq) (by kernel_rfl) ?_
         show wpAnyH _ _ _ _ _ 19 _ _ wr.drew
         refine tkw 0 62 rfl rfl (by kernel_rfl) (.slice (some ⟨g, o, none⟩) LT ct) idq (fun _ => by kernel_rfl) hS ?_
         refine tkw 1 63 rfl rfl (by kernel_rfl) (.int .i64 (k : Int)) idq (fun _ => by kernel_rfl) hS ?_
         refine tkl 2 64 rfl rfl (by kernel_rfl) idq (yields_ix (by kernel_rfl) 54 _ _ rfl g o LT ct k 3 (k : Int) (by kernel_rfl) (by kernel_rfl) rfl HLT.out (o + k * 3) rfl (by kernel_rfl) (fun w => size_try w)) hS ?_
         refine tkw 3 65 rfl rfl (by kernel_rfl) (.pointer (some ⟨g, o + k * 3, none⟩)) idq (fun _ => by kernel_rfl) hS ?_
         refine tkl 4 66 rfl rfl (by kernel_rfl) idq (yields_cell (by kernel_rfl) (.int .i64 1) 3 _ rfl ⟨g, o + k * 3, none⟩ (by kernel_rfl) (fun w h => load_inty w _ _ h) (fun wq hq => HWw.out wq hq)) hS ?_
         refine tkw 5 67 rfl rfl (by kernel_rfl) (.int .i64 1) idq (fun _ => by kernel_rfl) hS ?_
         refine tkw 6 68 rfl rfl (by kernel_rfl) (.bool true) idq (fun _ => by kernel_rfl) hS ?_
         refine tkw 7 69 rfl rfl (by kernel_rfl) (.bool true) idq (fun _ => by kernel_rfl) hS ?_
         refine tkw 8 70 rfl rfl (by kernel_rfl) (.slice (some ⟨g, o, none⟩) LT ct) idq (fun _ => by kernel_rfl) hS ?_
         refine tkw 9 71 rfl rfl (by kernel_rfl) (.int .i64 (k : Int)) idq (fun _ => by kernel_rfl) hS ?_
         refine tkl 10 72 rfl rfl (by kernel_rfl) idq (yields_ix (by kernel_rfl) 54 _ _ rfl g o LT ct k 3 (k : Int) (by kernel_rfl) (by kernel_rfl) rfl HLT.out (o + k * 3) rfl (by kernel_rfl) (fun w => size_try w)) hS ?_
         refine tkw 11 73 rfl rfl (by kernel_rfl) (.pointer (some ⟨g, o + k * 3 + 1, none⟩)) idq (fun _ => by kernel_rfl) hS ?_
         refine tkl 12 74 rfl rfl (by kernel_rfl) idq (yields_cell (by kernel_rfl) (.string s) 9 _ rfl ⟨g, o + k * 3 + 1, none⟩ (by kernel_rfl) (fun w h => load_stry w _ _ h) (fun wq hq => HWc.out wq hq)) hS ?_
         refine tkw 13 75 rfl rfl (by kernel_rfl) (.slice (some ⟨Gc, 0, none⟩) 2 2) idq (fun _ => by kernel_rfl) hS ?_
         refine tkw 14 76 rfl rfl (by kernel_rfl) (.int .i64 1) idq (fun _ => by kernel_rfl) hS ?_
         refine tkw 15 77 rfl rfl (by kernel_rfl) (.pointer (some ⟨Gc, 1, none⟩)) idq (fun _ => by kernel_rfl) hS ?_
         refine tkl 16 78 rfl rfl (by kernel_rfl) idq (yields_cell (by kernel_rfl) (.string ⟨#[111, 109, 101, 103, 97, 50]⟩) 9 _ rfl ⟨Gc, 1, none⟩ (by kernel_rfl) (fun w h => load_stry w _ _ h) (fun wq hq => HCc1.out wq hq)) hS ?_
         refine tkl 17 79 rfl rfl (by kernel_rfl) idq (yields_seq (by kernel_rfl) 9 _ _ _ rfl s ⟨#[111, 109, 101, 103, 97, 50]⟩ (by kernel_rfl) (by kernel_rfl) false HNC.out) hS ?_
         refine tkw 18 80 rfl rfl (by kernel_rfl) (.bool false) idq (fun _ => by kernel_rfl) hS ?_
         refine wpAnyH_done (by kernel_rfl) ?_ _
         simp only [Act.put, List.getElem_toArray, List.getElem_cons_succ, List.getElem_cons_zero, List.setIfInBounds_toArray, List.set_cons_succ, List.set_cons_zero]
         obtain ⟨w201, ewn⟩ : ∃ x, wr.drew = x := ⟨_, rfl⟩
         rw [ewn] at hS ⊢
         clear ewn HWw HWc HCc1
         have hL := HSM.out w201 hS
         clear HSM HMR eM
         have hM201 : Below N w w201 := below_more hM200 hL hs200
         have hs201 : N ≤ w201.heap.size := Nat.le_trans hs200 (hL).size
         have g_201 := Lib.hid (g_200.out.next hL)
         clear g_200
         have K_201 := Lib.hid (K_200.out.under hL)
         clear K_200
         have c_201 := Lib.hid (c_200.out.next hL)
         clear c_200
         have E_201 := Lib.hid (E_200.out.below hL)
         clear E_200
         clear hM200 hs200
         clear hL hS
         go_wp2_with fail
         obtain ⟨M, eM⟩ : ∃ M, w201.heap.size = M := ⟨_, rfl⟩
         have HSM := Lib.hid (show ∀ wq, Below M w201 wq → Below w201.heap.size w201 wq from fun wq h => by rw [eM]; exact h)
         have HMR := Lib.hid eM
         have hS : Below M w201 w201.drew := ⟨rfl, rfl, rfl, Nat.le_refl _, fun _ _ => rfl⟩
         have HWw := Lib.hid (show ∀ wq, Below M w201 wq → wq.cell? ⟨g, o + k * 3, none⟩ = some (.int .i64 1) from fun wq h => HTw.out wq (below_more hM201 (HSM.out wq h) hs201))
         have HWc := Lib.hid (show ∀ wq, Below M w201 wq → wq.cell? ⟨g, o + k * 3 + 1, none⟩ = some (.string s) from fun wq h => HTc.out wq (below_more hM201 (HSM.out wq h) hs201))
         have HKk := Lib.hid (show ∀ wq, Below M w201 wq → Blk wq N 53 K from fun wq h => K_201.out.under (HSM.out wq h))
         have HGk := Lib.hid (show ∀ wq, Below M w201 wq → GB wq Gg gdt K T0 T1 a b m n from fun wq h => g_201.out.next (HSM.out wq h))
         refine wp_region_held (S := fun wq => Below M w201 wq) (by kernel_rfl) ?_
         show wpAnyH _ _ _ _ _ 30 _ _ w201.drew
         refine tkw 0 81 rfl rfl (by kernel_rfl) (.slice (some ⟨g, o, none⟩) LT ct) idq (fun _ => by kernel_rfl) hS ?_
         refine tkw 1 82 rfl rfl (by kernel_rfl) (.int .i64 (k : Int)) idq (fun _ => by kernel_rfl) hS ?_
         refine tkl 2 83 rfl rfl (by kernel_rfl) idq (yields_ix (by kernel_rfl) 54 _ _ rfl g o LT ct k 3 (k : Int) (by kernel_rfl) (by kernel_rfl) rfl HLT.out (o + k * 3) rfl (by kernel_rfl) (fun w => size_try w)) hS ?_
         refine tkw 3 84 rfl rfl (by kernel_rfl) (.pointer (some ⟨g, o + k * 3, none⟩)) idq (fun _ => by kernel_rfl) hS ?_
         refine tkl 4 85 rfl rfl (by kernel_rfl) idq (yields_cell (by kernel_rfl) (.int .i64 1) 3 _ rfl ⟨g, o + k * 3, none⟩ (by kernel_rfl) (fun w h => load_inty w _ _ h) (fun wq hq => HWw.out wq hq)) hS ?_
         refine tkw 5 86 rfl rfl (by kernel_rfl) (.int .i64 1) idq (fun _ => by kernel_rfl) hS ?_
         refine tkw 6 87 rfl rfl (by kernel_rfl) (.bool true) idq (fun _ => by kernel_rfl) hS ?_
         refine tkw 7 88 rfl rfl (by kernel_rfl) (.bool true) idq (fun _ => by kernel_rfl) hS ?_
         refine tkw 8 89 rfl rfl (by kernel_rfl) (.slice (some ⟨g, o, none⟩) LT ct) idq (fun _ => by kernel_rfl) hS ?_
         refine tkw 9 90 rfl rfl (by kernel_rfl) (.int .i64 (k : Int)) idq (fun _ => by kernel_rfl) hS ?_
         refine tkl 10 91 rfl rfl (by kernel_rfl) idq (yields_ix (by kernel_rfl) 54 _ _ rfl g o LT ct k 3 (k : Int) (by kernel_rfl) (by kernel_rfl) rfl HLT.out (o + k * 3) rfl (by kernel_rfl) (fun w => size_try w)) hS ?_
         refine tkw 11 92 rfl rfl (by kernel_rfl) (.pointer (some ⟨g, o + k * 3 + 1, none⟩)) idq (fun _ => by kernel_rfl) hS ?_
         refine tkl 12 93 rfl rfl (by kernel_rfl) idq (yields_cell (by kernel_rfl) (.string s) 9 _ rfl ⟨g, o + k * 3 + 1, none⟩ (by kernel_rfl) (fun w h => load_stry w _ _ h) (fun wq hq => HWc.out wq hq)) hS ?_
         refine anyH_one 13 (by kernel_rfl) ?_
         refine opH_enter (some 94) rfl (by kernel_rfl) (by kernel_rfl) 29 #[.string s] (fun v wq => v = .bool true ∧ wq = w201.drew) (by kernel_rfl) ((rt24_yes s w201.drew HR1.out HR2.out).mono fun e wq ⟨q1, q2⟩ => ⟨_, q1, rfl, q2⟩) ?_
         rintro v9 wq ⟨rfl, rfl⟩
         refine ⟨hS, ?_⟩
         refine tkw 14 95 rfl rfl (by kernel_rfl) (.bool true) idq (fun _ => by kernel_rfl) hS ?_
         refine tkw 15 96 rfl rfl (by kernel_rfl) (.bool true) idq (fun _ => by kernel_rfl) hS ?_
         refine tkl 16 97 rfl rfl (by kernel_rfl) idq (yields_load (by kernel_rfl) 53 _ rfl N 0 16 5 K (by kernel_rfl) (fun wq hq => (HKk.out wq hq).rd0) HK.out (by kernel_rfl) (by kernel_rfl)) hS ?_
         refine tkw 17 98 rfl rfl (by kernel_rfl) (.int .i64 1) idq (fun _ => by kernel_rfl) hS ?_
         refine tkw 18 99 rfl rfl (by kernel_rfl) (.slice (some ⟨g, o, none⟩) LT ct) idq (fun _ => by kernel_rfl) hS ?_
         refine tkw 19 100 rfl rfl (by kernel_rfl) (.int .i64 (k : Int)) idq (fun _ => by kernel_rfl) hS ?_
         refine tkl 20 101 rfl rfl (by kernel_rfl) idq (yields_ix (by kernel_rfl) 54 _ _ rfl g o LT ct k 3 (k : Int) (by kernel_rfl) (by kernel_rfl) rfl HLT.out (o + k * 3) rfl (by kernel_rfl) (fun w => size_try w)) hS ?_
         refine tkw 21 102 rfl rfl (by kernel_rfl) (.pointer (some ⟨g, o + k * 3 + 1, none⟩)) idq (fun _ => by kernel_rfl) hS ?_
         refine tkl 22 103 rfl rfl (by kernel_rfl) idq (yields_cell (by kernel_rfl) (.string s) 9 _ rfl ⟨g, o + k * 3 + 1, none⟩ (by kernel_rfl) (fun w h => load_stry w _ _ h) (fun wq hq => HWc.out wq hq)) hS ?_
         refine tkw 24 105 rfl rfl (by kernel_rfl) (.int .i64 1) idq (fun _ => by kernel_rfl) hS ?_
         refine tkw 25 106 rfl rfl (by kernel_rfl) (.pointer (some ⟨Gg, 16, none⟩)) idq (fun _ => by kernel_rfl) hS ?_
         refine tkw 26 107 rfl rfl (by kernel_rfl) (.pointer (some ⟨Gg, 32, none⟩)) idq (fun _ => by kernel_rfl) hS ?_
         refine tkw 27 108 rfl rfl (by kernel_rfl) (.slice (some ⟨Gg, 32, none⟩) 16 16) idq (fun _ => by kernel_rfl) hS ?_
         refine anyH_one 23 (by kernel_rfl) ?_
         refine opH_enter (some 104) rfl (by kernel_rfl) (by kernel_rfl) 30 #[.agg (Bs K), .int .i64 1, .string s] (fun v wq => SlB wq v (ptag K 1 s) ∧ Below w201.drew.heap.size w201.drew wq) (by kernel_rfl) ((rtag_any K 1 1 s w201.drew rfl HK.out (by have := HSS.out; omega)).mono fun e wq ⟨vd, q1, q2, q3⟩ => ⟨vd, q1, q2, q3⟩) ?_
         rintro vt v6 ⟨hD, hL⟩
         have hS := hmr hS hL HMR.out
         refine ⟨hS, ?_⟩
         refine anyH_one 28 (by kernel_rfl) ?_
         refine opH_enter (some 109) rfl (by kernel_rfl) (by kernel_rfl) 18 #[vt, .slice (some ⟨Gg, 32, none⟩) 16 16] (fun v wq => v = .bool false ∧ Below v6.heap.size v6 wq) (by kernel_rfl) ((Same_any _ _ (ptag K 1 s) T1 v6 hD (VB.rdS (cs := []) ((HGk.out v6 hS).tag1 HK.out H0.out) H1.out) (by rw [ptag_len]; decide)).mono fun e wq ⟨q1, q2⟩ => ⟨_, q1, by rw [HTE.out], q2.below0⟩) ?_
         rintro v9 v7 ⟨rfl, hL⟩
         have hS := hmr hS hL HMR.out
         refine ⟨hS, ?_⟩
         refine tkw 29 110 rfl rfl (by kernel_rfl) (.bool false) idq (fun _ => by kernel_rfl) hS ?_
         refine wpAnyH_done (by kernel_rfl) ?_ _
         simp only [Act.put, List.getElem_toArray, List.getElem_cons_succ, List.getElem_cons_zero, List.setIfInBounds_toArray, List.set_cons_succ, List.set_cons_zero]
         obtain ⟨w202, ewn⟩ : ∃ x, v7 = x := ⟨_, rfl⟩
         rw [ewn] at hS ⊢
         clear ewn HWw HWc HKk HGk hD hL
         have hL := HSM.out w202 hS
         clear HSM HMR eM
         have hM202 : Below N w w202 := below_more hM201 hL hs201
         have hs202 : N ≤ w202.heap.size := Nat.le_trans hs201 (hL).size
         have g_202 := Lib.hid (g_201.out.next hL)
         clear g_201
         have K_202 := Lib.hid (K_201.out.under hL)
         clear K_201
         have c_202 := Lib.hid (c_201.out.next hL)
         clear c_201
         have E_202 := Lib.hid (E_201.out.below hL)
         clear E_201
         clear hM201 hs201
         clear hL hS
         go_wp2_with fail
         obtain ⟨M, eM⟩ : ∃ M, w202.heap.size = M := ⟨_, rfl⟩
         have HSM := Lib.hid (show ∀ wq, Below M w202 wq → Below w202.heap.size w202 wq from fun wq h => by rw [eM]; exact h)
         have HMR := Lib.hid eM
         have hS : Below M w202 w202.drew := ⟨rfl, rfl, rfl, Nat.le_refl _, fun _ _ => rfl⟩
         have HWw := Lib.hid (show ∀ wq, Below M w202 wq → wq.cell? ⟨g, o + k * 3, none⟩ = some (.int .i64 1) from fun wq h => HTw.out wq (below_more hM202 (HSM.out wq h) hs202))
         have HWc := Lib.hid (show ∀ wq, Below M w202 wq → wq.cell? ⟨g, o + k * 3 + 1, none⟩ = some (.string s) from fun wq h => HTc.out wq (below_more hM202 (HSM.out wq h) hs202))
         have HGk := Lib.hid (show ∀ wq, Below M w202 wq → GB wq Gg gdt K T0 T1 a b m n from fun wq h => g_202.out.next (HSM.out wq h))
         refine wp_region_held (S := fun wq => Below M w202 wq) (by kernel_rfl) ?_
         show wpAnyH _ _ _ _ _ 18 _ _ w202.drew
         refine tkl 0 112 rfl rfl (by kernel_rfl) idq (yields_gd (by kernel_rfl) _ rfl Gg gdt K T0 T1 a b m n (by kernel_rfl) (fun wq hq => HGk.out wq hq) HK.out H0.out H1.out) hS ?_
         refine tkw 1 113 rfl rfl (by kernel_rfl) (.slice (some ⟨g, o, none⟩) LT ct) idq (fun _ => by kernel_rfl) hS ?_
         refine tkw 2 114 rfl rfl (by kernel_rfl) (.int .i64 (k : Int)) idq (fun _ => by kernel_rfl) hS ?_
         refine tkl 3 115 rfl rfl (by kernel_rfl) idq (yields_ix (by kernel_rfl) 54 _ _ rfl g o LT ct k 3 (k : Int) (by kernel_rfl) (by kernel_rfl) rfl HLT.out (o + k * 3) rfl (by kernel_rfl) (fun w => size_try w)) hS ?_
         refine tkw 4 116 rfl rfl (by kernel_rfl) (.pointer (some ⟨g, o + k * 3, none⟩)) idq (fun _ => by kernel_rfl) hS ?_
         refine tkl 5 117 rfl rfl (by kernel_rfl) idq (yields_cell (by kernel_rfl) (.int .i64 1) 3 _ rfl ⟨g, o + k * 3, none⟩ (by kernel_rfl) (fun w h => load_inty w _ _ h) (fun wq hq => HWw.out wq hq)) hS ?_
         refine tkw 6 118 rfl rfl (by kernel_rfl) (.slice (some ⟨g, o, none⟩) LT ct) idq (fun _ => by kernel_rfl) hS ?_
         refine tkw 7 119 rfl rfl (by kernel_rfl) (.int .i64 (k : Int)) idq (fun _ => by kernel_rfl) hS ?_
         refine tkl 8 120 rfl rfl (by kernel_rfl) idq (yields_ix (by kernel_rfl) 54 _ _ rfl g o LT ct k 3 (k : Int) (by kernel_rfl) (by kernel_rfl) rfl HLT.out (o + k * 3) rfl (by kernel_rfl) (fun w => size_try w)) hS ?_
         refine tkw 9 121 rfl rfl (by kernel_rfl) (.pointer (some ⟨g, o + k * 3 + 1, none⟩)) idq (fun _ => by kernel_rfl) hS ?_
         refine tkl 10 122 rfl rfl (by kernel_rfl) idq (yields_cell (by kernel_rfl) (.string s) 9 _ rfl ⟨g, o + k * 3 + 1, none⟩ (by kernel_rfl) (fun w h => load_stry w _ _ h) (fun wq hq => HWc.out wq hq)) hS ?_
         apply share (fun (wz : World) (gx : Nat) => Below M w202 wz ∧ GB wz gx gdt K T0 T1 a' b' m' n' ∧ M ≤ gx)
         case main =>
          intro key
          refine anyH_two 11 15 (by kernel_rfl) ?_ ?_
          next =>
           refine opH_enter (some 123) rfl (by kernel_rfl) (by kernel_rfl) 31 #[.agg (ga K T0 T1 a b m n), .int .i64 1, .string s] (fun v wq => v = .tuple #[.agg (ga K T0 T1 a' b' m' n'), ev] ∧ Below w202.drew.heap.size w202.drew wq) (by kernel_rfl) ((HEN.out w202.drew).mono fun e wq ⟨q1, q2⟩ => ⟨_, q1, rfl, q2⟩) ?_
           rintro v9 v1 ⟨rfl, hL⟩
           have hS := hmr hS hL HMR.out
           refine ⟨hS, ?_⟩
           refine tkw 12 111 rfl rfl (by kernel_rfl) (.tuple #[.agg (ga K T0 T1 a' b' m' n'), ev]) idq (fun _ => by kernel_rfl) hS ?_
           refine tkw 13 124 rfl rfl (by kernel_rfl) (.agg (ga K T0 T1 a' b' m' n')) idq (fun _ => by kernel_rfl) hS ?_
           refine tkw 14 125 rfl rfl (by kernel_rfl) (ev) idq (fun _ => by kernel_rfl) hS ?_
           refine anyH_one 15 (by kernel_rfl) ?_
           refine ⟨?_⟩
           refine wpOp_alloc rfl (by kernel_rfl) gdt rfl (.agg (ga zg zg zg false false 0 0)) 52 (fun _ => by kernel_rfl) (by kernel_rfl) ?_
           intro v2 hRx hGa hza
           obtain ⟨gx, egx⟩ : ∃ g, v1.heap.size = g := ⟨_, rfl⟩
           rw [egx] at hRx ⊢
           have hgx : M ≤ gx := by have := hS.size; have := HMR.out; omega
           have hS : Below M w202 v2 := below_none hS (by have := hS.size; have := HMR.out; omega) hGa
           refine ⟨hS, ?_⟩
           refine anyH_one 16 (by kernel_rfl) ?_
           refine ⟨?_⟩
           refine wpOp_storev rfl (by kernel_rfl) gdt _ _ rfl gx gdt 52 (gcs K T0 T1 a' b' m' n') (by kernel_rfl) (by kernel_rfl) hRx (gcs_one _ _ _ _ _ _ _) (gcs_len _ _ _ _ _ _ _ HK.out H0.out H1.out) gdt_i ?_
           intro wz hBx hGx hzx
           have hS : Below M w202 wz := below_new hS (by have := hS.size; have := HMR.out; omega) hGx hgx
           refine ⟨hS, ?_⟩
           refine tkw 17 13 rfl rfl (by kernel_rfl) (ev) idq (fun _ => by kernel_rfl) hS ?_
           refine wpAnyH_done (by kernel_rfl) ?_ _
           simp only [Act.put, List.getElem_toArray, List.getElem_cons_succ, List.getElem_cons_zero, List.setIfInBounds_toArray, List.set_cons_succ, List.set_cons_zero]
           exact key wz gx ⟨hS, hBx, hgx⟩
          next =>
           refine ⟨?_⟩
           refine wpOp_alloc rfl (by kernel_rfl) gdt rfl (.agg (ga zg zg zg false false 0 0)) 52 (fun _ => by kernel_rfl) (by kernel_rfl) ?_
           intro v1 hRx hGa hza
           obtain ⟨gx, egx⟩ : ∃ g, w202.drew.heap.size = g := ⟨_, rfl⟩
           rw [egx] at hRx ⊢
           have hgx : M ≤ gx := by have := hS.size; have := HMR.out; omega
           have hS : Below M w202 v1 := below_none hS (by have := hS.size; have := HMR.out; omega) hGa
           refine ⟨hS, ?_⟩
           refine anyH_one 11 (by kernel_rfl) ?_
           refine opH_enter (some 123) rfl (by kernel_rfl) (by kernel_rfl) 31 #[.agg (ga K T0 T1 a b m n), .int .i64 1, .string s] (fun v wq => v = .tuple #[.agg (ga K T0 T1 a' b' m' n'), ev] ∧ Below v1.heap.size v1 wq) (by kernel_rfl) ((HEN.out v1).mono fun e wq ⟨q1, q2⟩ => ⟨_, q1, rfl, q2⟩) ?_
           rintro v9 v2 ⟨rfl, hL⟩
           have hRx := hRx.below hL hRx.lt
           have hS := hmr hS hL HMR.out
           refine ⟨hS, ?_⟩
           refine tkw 12 111 rfl rfl (by kernel_rfl) (.tuple #[.agg (ga K T0 T1 a' b' m' n'), ev]) idq (fun _ => by kernel_rfl) hS ?_
           refine tkw 13 124 rfl rfl (by kernel_rfl) (.agg (ga K T0 T1 a' b' m' n')) idq (fun _ => by kernel_rfl) hS ?_
           refine tkw 14 125 rfl rfl (by kernel_rfl) (ev) idq (fun _ => by kernel_rfl) hS ?_
           refine anyH_one 16 (by kernel_rfl) ?_
           refine ⟨?_⟩
           refine wpOp_storev rfl (by kernel_rfl) gdt _ _ rfl gx gdt 52 (gcs K T0 T1 a' b' m' n') (by kernel_rfl) (by kernel_rfl) hRx (gcs_one _ _ _ _ _ _ _) (gcs_len _ _ _ _ _ _ _ HK.out H0.out H1.out) gdt_i ?_
           intro wz hBx hGx hzx
           have hS : Below M w202 wz := below_new hS (by have := hS.size; have := HMR.out; omega) hGx hgx
           refine ⟨hS, ?_⟩
           refine tkw 17 13 rfl rfl (by kernel_rfl) (ev) idq (fun _ => by kernel_rfl) hS ?_
           refine wpAnyH_done (by kernel_rfl) ?_ _
           simp only [Act.put, List.getElem_toArray, List.getElem_cons_succ, List.getElem_cons_zero, List.setIfInBounds_toArray, List.set_cons_succ, List.set_cons_zero]
           exact key wz gx ⟨hS, hBx, hgx⟩
         rintro wz gx ⟨hS, hBx, hgx⟩
         have hL := HSM.out wz hS
         have hgB : GB wz gx gdt K T0 T1 a' b' m' n' := hBx
         have hgM := Lib.hid (show M ≤ gx ∧ M = w202.heap.size from ⟨hgx, HMR.out.symm⟩)
         obtain ⟨Gh, eGh⟩ : ∃ g, gx = g := ⟨_, rfl⟩
         rw [eGh] at hgB hgM ⊢
         obtain ⟨w203, ewz⟩ : ∃ x, wz = x := ⟨_, rfl⟩
         rw [ewz] at hL hgB ⊢
         clear ewz eGh hBx hgx
         have HHG := Lib.hid (show Gg < Gh from by have h1 := g_202.out.lt; have h2 := hgM.out; have h3 := HMR.out; omega)
         clear hgM HWw HWc HGk
         clear HSM HMR hS eM
         have hM203 : Below N w w203 := below_more hM202 hL hs202
         have hs203 : N ≤ w203.heap.size := Nat.le_trans hs202 (hL).size
         have g_203 := Lib.hid (g_202.out.next hL)
         clear g_202
         have K_203 := Lib.hid (K_202.out.under hL)
         clear K_202
         have c_203 := Lib.hid (c_202.out.next hL)
         clear c_202
         have E_203 := Lib.hid (E_202.out.below hL)
         clear E_202
         clear hM202 hs202
         have h_203 := Lib.hid (hgB)
         clear hL hgB
         go_wp2_with (first | ((with_reducible show wpList _ _ _ _ _ w203); refine load_gd (w := w203) (by rfl) _ rfl Gh gdt K T0 T1 a' b' m' n' (by rfl) h_203.out HK.out H0.out H1.out ?_) | ((with_reducible show wpList _ _ _ _ _ w203); refine store_vr (w := w203) rfl gdt _ _ rfl Gg gdt 52 (gcs K T0 T1 a' b' m' n') (by rfl) (by rfl) (VB.row g_203.out.vb (gcs_len _ _ _ _ _ _ _ HK.out H0.out H1.out)) (gcs_one _ _ _ _ _ _ _) (gcs_len _ _ _ _ _ _ _ HK.out H0.out H1.out) gdt_i ?_; intro w204 hB hG hz; have hB2 : GB w204 Gg gdt K T0 T1 a' b' m' n' := (hB); have hM204 : Below N w w204 := below_new hM203 hs203 hG HNG.out; have hs204 : N ≤ w204.heap.size := (by rw [hz]; exact hs203); have E_204 := Lib.hid (HE0.out.under hM204 HN.out); have K_204 := Lib.hid (blk_old K_203.out hG (by have := HCG.out; have := HCN.out; omega)); have c_204 := Lib.hid (VB.old c_203.out hG (by have := HCG.out; simp; omega)); have g_204 := Lib.hid hB2; clear hB2 hB hG hz g_203 K_203 c_203 E_203 h_203 hM203 hs203) | ((with_reducible show wpList _ _ _ _ _ w204); refine load_gd (w := w204) (by rfl) _ rfl Gg gdt K T0 T1 a' b' m' n' (by rfl) g_204.out HK.out H0.out H1.out ?_) | (go_at_call 32; (with_reducible show Calls _ _ _ w204 _); refine (BothG_no K T0 T1 a' b' m' n' w204 HK.out H0.out H1.out HNB.out).mono ?_; rintro e w205 ⟨vb, rfl, hV, hL⟩; obtain ⟨vT, vX, rfl⟩ := hV.form; clear hV; have hM205 : Below N w w205 := below_more hM204 hL hs204; have hs205 : N ≤ w205.heap.size := Nat.le_trans hs204 (hL).size; have g_205 := Lib.hid (g_204.out.next hL); clear g_204; have K_205 := Lib.hid (K_204.out.under hL); clear K_204; have c_205 := Lib.hid (c_204.out.next hL); clear c_204; have E_205 := Lib.hid (E_204.out.below hL); clear E_204; clear hM204 hs204; clear hL))
         refine ⟨⟨k + 1, a', b', m', n', HLT.out, by go_num, g_205.out, HI1.out, HI2.out, HI3.out, HI4.out, HI5.out, K_205.out, c_205.out, E_205.out, hM205, hs205⟩, by have : k < LT := HLT.out; simp [intOf]; omega⟩
     next =>
      have HNE := Lib.hid (show (u == 1) = false from beq_eq_false_iff_ne.2 hu)
      have HNU := Lib.hid hu
      clear hu
      obtain ⟨a', b', m', n', ev, h1, h2, h3, h4, h5, h6, h7⟩ := ent_any K T0 T1 a b m n u s HK.out H0.out H1.out (by have := HSS.out; omega) HMZ.out HNZ.out HAM.out HBN.out
      have HEN := Lib.hid h1
      have HI1 := Lib.hid h2
      have HI2 := Lib.hid h3
      have HI3 := Lib.hid h4
      have HI4 := Lib.hid h5
      have HI5 := Lib.hid (h7 (fun h => HNU.out h.1) HNO.out)
      have HNB := Lib.hid (show (a' && b') = false by rw [HI5.out]; simp)
      clear h1 h2 h3 h4 h5 h6 h7
      have g_200 := Lib.hid hg9
      have K_200 := Lib.hid hK9
      have c_200 := Lib.hid hc9
      have E_200 := Lib.hid hE9
      have hM200 := hM9
      have hs200 := hs9
      clear hg9 hK9 hc9 hE9 hM9 hs9
      go_wp2_with fail
      clear ct1 ct2
      obtain ⟨M, eM⟩ : ∃ M, wr.heap.size = M := ⟨_, rfl⟩
      have HSM := Lib.hid (show ∀ wq, Below M wr wq → Below wr.heap.size wr wq from fun wq h => by rw [eM]; exact h)
      have HMR := Lib.hid eM
      have hS : Below M wr wr.drew := ⟨rfl, rfl, rfl, Nat.le_refl _, fun _ _ => rfl⟩
      have HWw := Lib.hid (show ∀ wq, Below M wr wq → wq.cell? ⟨g, o + k * 3, none⟩ = some (.int .i64 u) from fun wq h => HTw.out wq (below_more hM200 (HSM.out wq h) hs200))
      have HWc := Lib.hid (show ∀ wq, Below M wr wq → wq.cell? ⟨g, o + k * 3 + 1, none⟩ = some (.string s) from fun wq h => HTc.out wq (below_more hM200 (HSM.out wq h) hs200))
      refine wp_region_held (S := fun wq => Below M wr wq) (by kernel_rfl) ?_
      show wpAnyH _ _ _ _ _ 19 _ _ wr.drew
      refine tkw 0 62 rfl rfl (by kernel_rfl) (.slice (some ⟨g, o, none⟩) LT ct) idq (fun _ => by kernel_rfl) hS ?_
      refine tkw 1 63 rfl rfl (by kernel_rfl) (.int .i64 (k : Int)) idq (fun _ => by kernel_rfl) hS ?_
      refine tkl 2 64 rfl rfl (by kernel_rfl) idq (yields_ix (by kernel_rfl) 54 _ _ rfl g o LT ct k 3 (k : Int) (by kernel_rfl) (by kernel_rfl) rfl HLT.out (o + k * 3) rfl (by kernel_rfl) (fun w => size_try w)) hS ?_
      refine tkw 3 65 rfl rfl (by kernel_rfl) (.pointer (some ⟨g, o + k * 3, none⟩)) idq (fun _ => by kernel_rfl) hS ?_
      refine tkl 4 66 rfl rfl (by kernel_rfl) idq (yields_cell (by kernel_rfl) (.int .i64 u) 3 _ rfl ⟨g, o + k * 3, none⟩ (by kernel_rfl) (fun w h => load_inty w _ _ h) (fun wq hq => HWw.out wq hq)) hS ?_
      refine tkw 5 67 rfl rfl (by kernel_rfl) (.int .i64 1) idq (fun _ => by kernel_rfl) hS ?_
      refine tkw 6 68 rfl rfl (by kernel_rfl) (.bool (u == 1)) idq (fun _ => by kernel_rfl) hS ?_
      rw [HNE.out]
      refine tkw 7 69 rfl rfl (by kernel_rfl) (.bool false) idq (fun _ => by kernel_rfl) hS ?_
      refine tkn 8 70 rfl rfl (by kernel_rfl) idq hS ?_
      refine tkn 9 71 rfl rfl (by kernel_rfl) idq hS ?_
      refine tkn 10 72 rfl rfl (by kernel_rfl) idq hS ?_
      refine tkn 11 73 rfl rfl (by kernel_rfl) idq hS ?_
      refine tkn 12 74 rfl rfl (by kernel_rfl) idq hS ?_
      refine tkn 13 75 rfl rfl (by kernel_rfl) idq hS ?_
      refine tkn 14 76 rfl rfl (by kernel_rfl) idq hS ?_
      refine tkn 15 77 rfl rfl (by kernel_rfl) idq hS ?_
      refine tkn 16 78 rfl rfl (by kernel_rfl) idq hS ?_
      refine tkn 17 79 rfl rfl (by kernel_rfl) idq hS ?_
      refine tkw 18 80 rfl rfl (by kernel_rfl) (.bool false) idq (fun _ => by kernel_rfl) hS ?_
      refine wpAnyH_done (by kernel_rfl) ?_ _
      simp only [Act.put, List.getElem_toArray, List.getElem_cons_succ, List.getElem_cons_zero, List.setIfInBounds_toArray, List.set_cons_succ, List.set_cons_zero]
      obtain ⟨w201, ewn⟩ : ∃ x, wr.drew = x := ⟨_, rfl⟩
      rw [ewn] at hS ⊢
      clear ewn HWw HWc
      have hL := HSM.out w201 hS
      clear HSM HMR eM
      have hM201 : Below N w w201 := below_more hM200 hL hs200
      have hs201 : N ≤ w201.heap.size := Nat.le_trans hs200 (hL).size
      have g_201 := Lib.hid (g_200.out.next hL)
      clear g_200
      have K_201 := Lib.hid (K_200.out.under hL)
      clear K_200
      have c_201 := Lib.hid (c_200.out.next hL)
      clear c_200
      have E_201 := Lib.hid (E_200.out.below hL)
      clear E_200
      clear hM200 hs200
      clear hL hS
      go_wp2_with fail
      obtain ⟨M, eM⟩ : ∃ M, w201.heap.size = M := ⟨_, rfl⟩
      have HSM := Lib.hid (show ∀ wq, Below M w201 wq → Below w201.heap.size w201 wq from fun wq h => by rw [eM]; exact h)
      have HMR := Lib.hid eM
      have hS : Below M w201 w201.drew := ⟨rfl, rfl, rfl, Nat.le_refl _, fun _ _ => rfl⟩
      have HWw := Lib.hid (show ∀ wq, Below M w201 wq → wq.cell? ⟨g, o + k * 3, none⟩ = some (.int .i64 u) from fun wq h => HTw.out wq (below_more hM201 (HSM.out wq h) hs201))
      have HWc := Lib.hid (show ∀ wq, Below M w201 wq → wq.cell? ⟨g, o + k * 3 + 1, none⟩ = some (.string s) from fun wq h => HTc.out wq (below_more hM201 (HSM.out wq h) hs201))
      refine wp_region_held (S := fun wq => Below M w201 wq) (by kernel_rfl) ?_
      show wpAnyH _ _ _ _ _ 30 _ _ w201.drew
      refine tkw 0 81 rfl rfl (by kernel_rfl) (.slice (some ⟨g, o, none⟩) LT ct) idq (fun _ => by kernel_rfl) hS ?_
      refine tkw 1 82 rfl rfl (by kernel_rfl) (.int .i64 (k : Int)) idq (fun _ => by kernel_rfl) hS ?_
      refine tkl 2 83 rfl rfl (by kernel_rfl) idq (yields_ix (by kernel_rfl) 54 _ _ rfl g o LT ct k 3 (k : Int) (by kernel_rfl) (by kernel_rfl) rfl HLT.out (o + k * 3) rfl (by kernel_rfl) (fun w => size_try w)) hS ?_
      refine tkw 3 84 rfl rfl (by kernel_rfl) (.pointer (some ⟨g, o + k * 3, none⟩)) idq (fun _ => by kernel_rfl) hS ?_
      refine tkl 4 85 rfl rfl (by kernel_rfl) idq (yields_cell (by kernel_rfl) (.int .i64 u) 3 _ rfl ⟨g, o + k * 3, none⟩ (by kernel_rfl) (fun w h => load_inty w _ _ h) (fun wq hq => HWw.out wq hq)) hS ?_
      refine tkw 5 86 rfl rfl (by kernel_rfl) (.int .i64 1) idq (fun _ => by kernel_rfl) hS ?_
      refine tkw 6 87 rfl rfl (by kernel_rfl) (.bool (u == 1)) idq (fun _ => by kernel_rfl) hS ?_
      rw [HNE.out]
      refine tkw 7 88 rfl rfl (by kernel_rfl) (.bool false) idq (fun _ => by kernel_rfl) hS ?_
      refine tkn 8 89 rfl rfl (by kernel_rfl) idq hS ?_
      refine tkn 9 90 rfl rfl (by kernel_rfl) idq hS ?_
      refine tkn 10 91 rfl rfl (by kernel_rfl) idq hS ?_
      refine tkn 11 92 rfl rfl (by kernel_rfl) idq hS ?_
      refine tkn 12 93 rfl rfl (by kernel_rfl) idq hS ?_
      refine tkn 13 94 rfl rfl (by kernel_rfl) idq hS ?_
      refine tkw 14 95 rfl rfl (by kernel_rfl) (.bool false) idq (fun _ => by kernel_rfl) hS ?_
      refine tkw 15 96 rfl rfl (by kernel_rfl) (.bool false) idq (fun _ => by kernel_rfl) hS ?_
      refine tkn 16 97 rfl rfl (by kernel_rfl) idq hS ?_
      refine tkn 17 98 rfl rfl (by kernel_rfl) idq hS ?_
      refine tkn 18 99 rfl rfl (by kernel_rfl) idq hS ?_
      refine tkn 19 100 rfl rfl (by kernel_rfl) idq hS ?_
      refine tkn 20 101 rfl rfl (by kernel_rfl) idq hS ?_
      refine tkn 21 102 rfl rfl (by kernel_rfl) idq hS ?_
      refine tkn 22 103 rfl rfl (by kernel_rfl) idq hS ?_
      refine tkn 23 104 rfl rfl (by kernel_rfl) idq hS ?_
      refine tkn 24 105 rfl rfl (by kernel_rfl) idq hS ?_
      refine tkn 25 106 rfl rfl (by kernel_rfl) idq hS ?_
      refine tkn 26 107 rfl rfl (by kernel_rfl) idq hS ?_
      refine tkn 27 108 rfl rfl (by kernel_rfl) idq hS ?_
      refine tkn 28 109 rfl rfl (by kernel_rfl) idq hS ?_
      refine tkw 29 110 rfl rfl (by kernel_rfl) (.bool false) idq (fun _ => by kernel_rfl) hS ?_
      refine wpAnyH_done (by kernel_rfl) ?_ _
      simp only [Act.put, List.getElem_toArray, List.getElem_cons_succ, List.getElem_cons_zero, List.setIfInBounds_toArray, List.set_cons_succ, List.set_cons_zero]
      obtain ⟨w202, ewn⟩ : ∃ x, w201.drew = x := ⟨_, rfl⟩
      rw [ewn] at hS ⊢
      clear ewn HWw HWc
      have hL := HSM.out w202 hS
      clear HSM HMR eM
      have hM202 : Below N w w202 := below_more hM201 hL hs201
      have hs202 : N ≤ w202.heap.size := Nat.le_trans hs201 (hL).size
      have g_202 := Lib.hid (g_201.out.next hL)
      clear g_201
      have K_202 := Lib.hid (K_201.out.under hL)
      clear K_201
      have c_202 := Lib.hid (c_201.out.next hL)
      clear c_201
      have E_202 := Lib.hid (E_201.out.below hL)
      clear E_201
      clear hM201 hs201
      clear hL hS
      go_wp2_with fail
      obtain ⟨M, eM⟩ : ∃ M, w202.heap.size = M := ⟨_, rfl⟩
      have HSM := Lib.hid (show ∀ wq, Below M w202 wq → Below w202.heap.size w202 wq from fun wq h => by rw [eM]; exact h)
      have HMR := Lib.hid eM
      have hS : Below M w202 w202.drew := ⟨rfl, rfl, rfl, Nat.le_refl _, fun _ _ => rfl⟩
      have HWw := Lib.hid (show ∀ wq, Below M w202 wq → wq.cell? ⟨g, o + k * 3, none⟩ = some (.int .i64 u) from fun wq h => HTw.out wq (below_more hM202 (HSM.out wq h) hs202))
      have HWc := Lib.hid (show ∀ wq, Below M w202 wq → wq.cell? ⟨g, o + k * 3 + 1, none⟩ = some (.string s) from fun wq h => HTc.out wq (below_more hM202 (HSM.out wq h) hs202))
      have HGk := Lib.hid (show ∀ wq, Below M w202 wq → GB wq Gg gdt K T0 T1 a b m n from fun wq h => g_202.out.next (HSM.out wq h))
      refine wp_region_held (S := fun wq => Below M w202 wq) (by kernel_rfl) ?_
      show wpAnyH _ _ _ _ _ 18 _ _ w202.drew
      refine tkl 0 112 rfl rfl (by kernel_rfl) idq (yields_gd (by kernel_rfl) _ rfl Gg gdt K T0 T1 a b m n (by kernel_rfl) (fun wq hq => HGk.out wq hq) HK.out H0.out H1.out) hS ?_
      refine tkw 1 113 rfl rfl (by kernel_rfl) (.slice (some ⟨g, o, none⟩) LT ct) idq (fun _ => by kernel_rfl) hS ?_
      refine tkw 2 114 rfl rfl (by kernel_rfl) (.int .i64 (k : Int)) idq (fun _ => by kernel_rfl) hS ?_
      refine tkl 3 115 rfl rfl (by kernel_rfl) idq (yields_ix (by kernel_rfl) 54 _ _ rfl g o LT ct k 3 (k : Int) (by kernel_rfl) (by kernel_rfl) rfl HLT.out (o + k * 3) rfl (by kernel_rfl) (fun w => size_try w)) hS ?_
      refine tkw 4 116 rfl rfl (by kernel_rfl) (.pointer (some ⟨g, o + k * 3, none⟩)) idq (fun _ => by kernel_rfl) hS ?_
      refine tkl 5 117 rfl rfl (by kernel_rfl) idq (yields_cell (by kernel_rfl) (.int .i64 u) 3 _ rfl ⟨g, o + k * 3, none⟩ (by kernel_rfl) (fun w h => load_inty w _ _ h) (fun wq hq => HWw.out wq hq)) hS ?_
      refine tkw 6 118 rfl rfl (by kernel_rfl) (.slice (some ⟨g, o, none⟩) LT ct) idq (fun _ => by kernel_rfl) hS ?_
      refine tkw 7 119 rfl rfl (by kernel_rfl) (.int .i64 (k : Int)) idq (fun _ => by kernel_rfl) hS ?_
      refine tkl 8 120 rfl rfl (by kernel_rfl) idq (yields_ix (by kernel_rfl) 54 _ _ rfl g o LT ct k 3 (k : Int) (by kernel_rfl) (by kernel_rfl) rfl HLT.out (o + k * 3) rfl (by kernel_rfl) (fun w => size_try w)) hS ?_
      refine tkw 9 121 rfl rfl (by kernel_rfl) (.pointer (some ⟨g, o + k * 3 + 1, none⟩)) idq (fun _ => by kernel_rfl) hS ?_
      refine tkl 10 122 rfl rfl (by kernel_rfl) idq (yields_cell (by kernel_rfl) (.string s) 9 _ rfl ⟨g, o + k * 3 + 1, none⟩ (by kernel_rfl) (fun w h => load_stry w _ _ h) (fun wq hq => HWc.out wq hq)) hS ?_
      apply share (fun (wz : World) (gx : Nat) => Below M w202 wz ∧ GB wz gx gdt K T0 T1 a' b' m' n' ∧ M ≤ gx)
      case main =>
       intro key
       refine anyH_two 11 15 (by kernel_rfl) ?_ ?_
       next =>
        refine opH_enter (some 123) rfl (by kernel_rfl) (by kernel_rfl) 31 #[.agg (ga K T0 T1 a b m n), .int .i64 u, .string s] (fun v wq => v = .tuple #[.agg (ga K T0 T1 a' b' m' n'), ev] ∧ Below w202.drew.heap.size w202.drew wq) (by kernel_rfl) ((HEN.out w202.drew).mono fun e wq ⟨q1, q2⟩ => ⟨_, q1, rfl, q2⟩) ?_
        rintro v9 v1 ⟨rfl, hL⟩
        have hS := hmr hS hL HMR.out
        refine ⟨hS, ?_⟩
        refine tkw 12 111 rfl rfl (by kernel_rfl) (.tuple #[.agg (ga K T0 T1 a' b' m' n'), ev]) idq (fun _ => by kernel_rfl) hS ?_
        refine tkw 13 124 rfl rfl (by kernel_rfl) (.agg (ga K T0 T1 a' b' m' n')) idq (fun _ => by kernel_rfl) hS ?_
        refine tkw 14 125 rfl rfl (by kernel_rfl) (ev) idq (fun _ => by kernel_rfl) hS ?_
        refine anyH_one 15 (by kernel_rfl) ?_
        refine ⟨?_⟩
        refine wpOp_alloc rfl (by kernel_rfl) gdt rfl (.agg (ga zg zg zg false false 0 0)) 52 (fun _ => by kernel_rfl) (by kernel_rfl) ?_
        intro v2 hRx hGa hza
        obtain ⟨gx, egx⟩ : ∃ g, v1.heap.size = g := ⟨_, rfl⟩
        rw [egx] at hRx ⊢
        have hgx : M ≤ gx := by have := hS.size; have := HMR.out; omega
        have hS : Below M w202 v2 := below_none hS (by have := hS.size; have := HMR.out; omega) hGa
        refine ⟨hS, ?_⟩
        refine anyH_one 16 (by kernel_rfl) ?_
        refine ⟨?_⟩
        refine wpOp_storev rfl (by kernel_rfl) gdt _ _ rfl gx gdt 52 (gcs K T0 T1 a' b' m' n') (by kernel_rfl) (by kernel_rfl) hRx (gcs_one _ _ _ _ _ _ _) (gcs_len _ _ _ _ _ _ _ HK.out H0.out H1.out) gdt_i ?_
        intro wz hBx hGx hzx
        have hS : Below M w202 wz := below_new hS (by have := hS.size; have := HMR.out; omega) hGx hgx
        refine ⟨hS, ?_⟩
        refine tkw 17 13 rfl rfl (by kernel_rfl) (ev) idq (fun _ => by kernel_rfl) hS ?_
        refine wpAnyH_done (by kernel_rfl) ?_ _
        simp only [Act.put, List.getElem_toArray, List.getElem_cons_succ, List.getElem_cons_zero, List.setIfInBounds_toArray, List.set_cons_succ, List.set_cons_zero]
        exact key wz gx ⟨hS, hBx, hgx⟩
       next =>
        refine ⟨?_⟩
        refine wpOp_alloc rfl (by kernel_rfl) gdt rfl (.agg (ga zg zg zg false false 0 0)) 52 (fun _ => by kernel_rfl) (by kernel_rfl) ?_
        intro v1 hRx hGa hza
        obtain ⟨gx, egx⟩ : ∃ g, w202.drew.heap.size = g := ⟨_, rfl⟩
        rw [egx] at hRx ⊢
        have hgx : M ≤ gx := by have := hS.size; have := HMR.out; omega
        have hS : Below M w202 v1 := below_none hS (by have := hS.size; have := HMR.out; omega) hGa
        refine ⟨hS, ?_⟩
        refine anyH_one 11 (by kernel_rfl) ?_
        refine opH_enter (some 123) rfl (by kernel_rfl) (by kernel_rfl) 31 #[.agg (ga K T0 T1 a b m n), .int .i64 u, .string s] (fun v wq => v = .tuple #[.agg (ga K T0 T1 a' b' m' n'), ev] ∧ Below v1.heap.size v1 wq) (by kernel_rfl) ((HEN.out v1).mono fun e wq ⟨q1, q2⟩ => ⟨_, q1, rfl, q2⟩) ?_
        rintro v9 v2 ⟨rfl, hL⟩
        have hRx := hRx.below hL hRx.lt
        have hS := hmr hS hL HMR.out
        refine ⟨hS, ?_⟩
        refine tkw 12 111 rfl rfl (by kernel_rfl) (.tuple #[.agg (ga K T0 T1 a' b' m' n'), ev]) idq (fun _ => by kernel_rfl) hS ?_
        refine tkw 13 124 rfl rfl (by kernel_rfl) (.agg (ga K T0 T1 a' b' m' n')) idq (fun _ => by kernel_rfl) hS ?_
        refine tkw 14 125 rfl rfl (by kernel_rfl) (ev) idq (fun _ => by kernel_rfl) hS ?_
        refine anyH_one 16 (by kernel_rfl) ?_
        refine ⟨?_⟩
        refine wpOp_storev rfl (by kernel_rfl) gdt _ _ rfl gx gdt 52 (gcs K T0 T1 a' b' m' n') (by kernel_rfl) (by kernel_rfl) hRx (gcs_one _ _ _ _ _ _ _) (gcs_len _ _ _ _ _ _ _ HK.out H0.out H1.out) gdt_i ?_
        intro wz hBx hGx hzx
        have hS : Below M w202 wz := below_new hS (by have := hS.size; have := HMR.out; omega) hGx hgx
        refine ⟨hS, ?_⟩
        refine tkw 17 13 rfl rfl (by kernel_rfl) (ev) idq (fun _ => by kernel_rfl) hS ?_
        refine wpAnyH_done (by kernel_rfl) ?_ _
        simp only [Act.put, List.getElem_toArray, List.getElem_cons_succ, List.getElem_cons_zero, List.setIfInBounds_toArray, List.set_cons_succ, List.set_cons_zero]
        exact key wz gx ⟨hS, hBx, hgx⟩
      rintro wz gx ⟨hS, hBx, hgx⟩
      have hL := HSM.out wz hS
      have hgB : GB wz gx gdt K T0 T1 a' b' m' n' := hBx
      have hgM := Lib.hid (show M ≤ gx ∧ M = w202.heap.size from ⟨hgx, HMR.out.symm⟩)
      obtain ⟨Gh, eGh⟩ : ∃ g, gx = g := ⟨_, rfl⟩
      rw [eGh] at hgB hgM ⊢
      obtain ⟨w203, ewz⟩ : ∃ x, wz = x := ⟨_, rfl⟩
      rw [ewz] at hL hgB ⊢
      clear ewz eGh hBx hgx
      have HHG := Lib.hid (show Gg < Gh from by have h1 := g_202.out.lt; have h2 := hgM.out; have h3 := HMR.out; omega)
      clear hgM HWw HWc HGk
      clear HSM HMR hS eM
      have hM203 : Below N w w203 := below_more hM202 hL hs202
      have hs203 : N ≤ w203.heap.size := Nat.le_trans hs202 (hL).size
      have g_203 := Lib.hid (g_202.out.next hL)
      clear g_202
      have K_203 := Lib.hid (K_202.out.under hL)
      clear K_202
      have c_203 := Lib.hid (c_202.out.next hL)
      clear c_202
      have E_203 := Lib.hid (E_202.out.below hL)
      clear E_202
      clear hM202 hs202
      have h_203 := Lib.hid (hgB)
      clear hL hgB
      go_wp2_with (first | ((with_reducible show wpList _ _ _ _ _ w203); refine load_gd (w := w203) (by rfl) _ rfl Gh gdt K T0 T1 a' b' m' n' (by rfl) h_203.out HK.out H0.out H1.out ?_) | ((with_reducible show wpList _ _ _ _ _ w203); refine store_vr (w := w203) rfl gdt _ _ rfl Gg gdt 52 (gcs K T0 T1 a' b' m' n') (by rfl) (by rfl) (VB.row g_203.out.vb (gcs_len _ _ _ _ _ _ _ HK.out H0.out H1.out)) (gcs_one _ _ _ _ _ _ _) (gcs_len _ _ _ _ _ _ _ HK.out H0.out H1.out) gdt_i ?_; intro w204 hB hG hz; have hB2 : GB w204 Gg gdt K T0 T1 a' b' m' n' := (hB); have hM204 : Below N w w204 := below_new hM203 hs203 hG HNG.out; have hs204 : N ≤ w204.heap.size := (by rw [hz]; exact hs203); have E_204 := Lib.hid (HE0.out.under hM204 HN.out); have K_204 := Lib.hid (blk_old K_203.out hG (by have := HCG.out; have := HCN.out; omega)); have c_204 := Lib.hid (VB.old c_203.out hG (by have := HCG.out; simp; omega)); have g_204 := Lib.hid hB2; clear hB2 hB hG hz g_203 K_203 c_203 E_203 h_203 hM203 hs203) | ((with_reducible show wpList _ _ _ _ _ w204); refine load_gd (w := w204) (by rfl) _ rfl Gg gdt K T0 T1 a' b' m' n' (by rfl) g_204.out HK.out H0.out H1.out ?_) | (go_at_call 32; (with_reducible show Calls _ _ _ w204 _); refine (BothG_no K T0 T1 a' b' m' n' w204 HK.out H0.out H1.out HNB.out).mono ?_; rintro e w205 ⟨vb, rfl, hV, hL⟩; obtain ⟨vT, vX, rfl⟩ := hV.form; clear hV; have hM205 : Below N w w205 := below_more hM204 hL hs204; have hs205 : N ≤ w205.heap.size := Nat.le_trans hs204 (hL).size; have g_205 := Lib.hid (g_204.out.next hL); clear g_204; have K_205 := Lib.hid (K_204.out.under hL); clear K_204; have c_205 := Lib.hid (c_204.out.next hL); clear c_204; have E_205 := Lib.hid (E_204.out.below hL); clear E_204; clear hM204 hs204; clear hL))
      refine ⟨⟨k + 1, a', b', m', n', HLT.out, by go_num, g_205.out, HI1.out, HI2.out, HI3.out, HI4.out, HI5.out, K_205.out, c_205.out, E_205.out, hM205, hs205⟩, by have : k < LT := HLT.out; simp [intOf]; omega⟩
    next =>
     skip
     have g_200 := Lib.hid hg9
     have K_200 := Lib.hid hK9
     have c_200 := Lib.hid hc9
     have E_200 := Lib.hid hE9
     have hM200 := hM9
     have hs200 := hs9
     clear hg9 hK9 hc9 hE9 hM9 hs9
     go_wp2_with (first | ((with_reducible show wpList _ _ _ _ _ wr); refine load_gd (w := wr) (by rfl) _ rfl Gg gdt K T0 T1 a b m n (by rfl) g_200.out HK.out H0.out H1.out ?_) | (go_at_call 28; (with_reducible show Calls _ _ _ wr _); refine (Leave_any K T0 T1 a b m n wr HK.out H0.out H1.out).mono ?_; rintro e w201 ⟨rfl, hL⟩; have hM201 : Below N w w201 := below_more hM200 hL hs200; have hs201 : N ≤ w201.heap.size := Nat.le_trans hs200 (hL).size; have g_201 := Lib.hid (g_200.out.next hL); clear g_200; have K_201 := Lib.hid (K_200.out.under hL); clear K_200; have c_201 := Lib.hid (c_200.out.next hL); clear c_200; have E_201 := Lib.hid (E_200.out.below hL); clear E_200; clear hM200 hs200; clear hL) | ((with_reducible show wpList _ _ _ _ _ w201); refine store_vr (w := w201) rfl gdt _ _ rfl Gg gdt 52 (gcs K T0 T1 false false m n) (by rfl) (by rfl) (VB.row g_201.out.vb (gcs_len _ _ _ _ _ _ _ HK.out H0.out H1.out)) (gcs_one _ _ _ _ _ _ _) (gcs_len _ _ _ _ _ _ _ HK.out H0.out H1.out) gdt_i ?_; intro w202 hB hG hz; have hB2 : GB w202 Gg gdt K T0 T1 false false m n := (hB); have hM202 : Below N w w202 := below_new hM201 hs201 hG HNG.out; have hs202 : N ≤ w202.heap.size := (by rw [hz]; exact hs201); have E_202 := Lib.hid (HE0.out.under hM202 HN.out); have K_202 := Lib.hid (blk_old K_201.out hG (by have := HCG.out; have := HCN.out; omega)); have c_202 := Lib.hid (VB.old c_201.out hG (by have := HCG.out; simp; omega)); have g_202 := Lib.hid hB2; clear hB2 hB hG hz g_201 K_201 c_201 E_201 hM201 hs201))
     refine ⟨⟨k + 1, false, false, m, n, HLT.out, by go_num, g_202.out, HMZ.out, HNZ.out, (fun h => by cases h), (fun h => by cases h), rfl, K_202.out, c_202.out, E_202.out, hM202, hs202⟩, by have : k < LT := HLT.out; simp [intOf]; omega⟩
   next =>
    have i1 : decide ((100 : Int) < (s.size : Int)) = true := by simp; omega
    have HM9 := Lib.hid hM9
    clear hg9 hK9 hc9 hE9 hM9 hm0 hn0 ham hbn hno h100
    go_wp2_with fail
    go_ret
    exact ⟨rfl, by first | exact HM9.out | (rw [HN.out]; exact HM9.out)⟩
  next =>
   have hik : ¬ (k : Int) < (LT : Int) := by omega
   clear hlt hk
   have HMZ := Lib.hid hm0
   have HNZ := Lib.hid hn0
   have HAM := Lib.hid ham
   have HBN := Lib.hid hbn
   clear hm0 hn0 ham hbn hno
   by_cases l0 : 5 ≤ m
   all_goals by_cases l1 : 5 ≤ n
   next =>
    skip
    have g_200 := Lib.hid hg9
    have K_200 := Lib.hid hK9
    have c_200 := Lib.hid hc9
    have E_200 := Lib.hid hE9
    have hM200 := hM9
    have hs200 := hs9
    clear hg9 hK9 hc9 hE9 hM9 hs9
    skip
    have L0 := Lib.hid l0
    have L1 := Lib.hid l1
    clear l0 l1
    go_wp2_with fail
    obtain ⟨M, eM⟩ : ∃ M, wr.heap.size = M := ⟨_, rfl⟩
    have HSM := Lib.hid (show ∀ wq, Below M wr wq → Below wr.heap.size wr wq from fun wq h => by rw [eM]; exact h)
    have HMR := Lib.hid eM
    have hS : Below M wr wr.drew := ⟨rfl, rfl, rfl, Nat.le_refl _, fun _ _ => rfl⟩
    have HCc0 := Lib.hid (show ∀ wq, Below M wr wq → wq.cell? ⟨Gc, 0, none⟩ = some (.string ⟨#[97, 108, 112, 104, 97]⟩) from fun wq h => VB.cell (VB.next c_200.out (HSM.out wq h)) 0 _ rfl)
    have HGk := Lib.hid (show ∀ wq, Below M wr wq → GB wq Gg gdt K T0 T1 a b m n from fun wq h => g_200.out.next (HSM.out wq h))
    refine wp_region_held (S := fun wq => Below M wr wq) (by kernel_rfl) ?_
    show wpAnyH _ _ _ _ _ 11 _ _ wr.drew
    refine tkl 0 131 rfl rfl (by kernel_rfl) idq (yields_gd (by kernel_rfl) _ rfl Gg gdt K T0 T1 a b m n (by kernel_rfl) (fun wq hq => HGk.out wq hq) HK.out H0.out H1.out) hS ?_
    refine tkw 1 132 rfl rfl (by kernel_rfl) (.slice (some ⟨Gc, 0, none⟩) 2 2) idq (fun _ => by kernel_rfl) hS ?_
    refine tkw 2 133 rfl rfl (by kernel_rfl) (.pointer (some ⟨Gc, 0, none⟩)) idq (fun _ => by kernel_rfl) hS ?_
    refine tkl 3 134 rfl rfl (by kernel_rfl) idq (yields_cell (by kernel_rfl) (.string ⟨#[97, 108, 112, 104, 97]⟩) 9 _ rfl ⟨Gc, 0, none⟩ (by kernel_rfl) (fun w h => load_stry w _ _ h) (fun wq hq => HCc0.out wq hq)) hS ?_
    apply share (fun (wz : World) (gx : Nat) => Below M wr wz ∧ GB wz gx gdt K T0 T1 a b m n ∧ M ≤ gx)
    case main =>
     intro key
     refine anyH_two 4 8 (by kernel_rfl) ?_ ?_
     next =>
      refine opH_enter (some 135) rfl (by kernel_rfl) (by kernel_rfl) 31 #[.agg (ga K T0 T1 a b m n), .int .i64 0, .string ⟨#[97, 108, 112, 104, 97]⟩] (fun v wq => v = .tuple #[.agg (ga K T0 T1 a b m n), .iface 91 (.int .i64 9)] ∧ Below wr.drew.heap.size wr.drew wq) (by kernel_rfl) ((Enter_locked0 K T0 T1 a b m n ⟨#[97, 108, 112, 104, 97]⟩ wr.drew HK.out H0.out H1.out L0.out).mono fun e wq ⟨q1, q2⟩ => ⟨_, q1, rfl, q2⟩) ?_
      rintro v9 v1 ⟨rfl, hL⟩
      have hS := hmr hS hL HMR.out
      refine ⟨hS, ?_⟩
      refine tkw 5 130 rfl rfl (by kernel_rfl) (.tuple #[.agg (ga K T0 T1 a b m n), .iface 91 (.int .i64 9)]) idq (fun _ => by kernel_rfl) hS ?_
      refine tkw 6 136 rfl rfl (by kernel_rfl) (.agg (ga K T0 T1 a b m n)) idq (fun _ => by kernel_rfl) hS ?_
      refine tkw 7 137 rfl rfl (by kernel_rfl) (.iface 91 (.int .i64 9)) idq (fun _ => by kernel_rfl) hS ?_
      refine anyH_one 8 (by kernel_rfl) ?_
      refine ⟨?_⟩
      refine wpOp_alloc rfl (by kernel_rfl) gdt rfl (.agg (ga zg zg zg false false 0 0)) 52 (fun _ => by kernel_rfl) (by kernel_rfl) ?_
      intro v2 hRx hGa hza
      obtain ⟨gx, egx⟩ : ∃ g, v1.heap.size = g := ⟨_, rfl⟩
      rw [egx] at hRx ⊢
      have hgx : M ≤ gx := by have := hS.size; have := HMR.out; omega
      have hS : Below M wr v2 := below_none hS (by have := hS.size; have := HMR.out; omega) hGa
      refine ⟨hS, ?_⟩
      refine anyH_one 9 (by kernel_rfl) ?_
      refine ⟨?_⟩
      refine wpOp_storev rfl (by kernel_rfl) gdt _ _ rfl gx gdt 52 (gcs K T0 T1 a b m n) (by kernel_rfl) (by kernel_rfl) hRx (gcs_one _ _ _ _ _ _ _) (gcs_len _ _ _ _ _ _ _ HK.out H0.out H1.out) gdt_i ?_
      intro wz hBx hGx hzx
      have hS : Below M wr wz := below_new hS (by have := hS.size; have := HMR.out; omega) hGx hgx
      refine ⟨hS, ?_⟩
      refine tkw 10 15 rfl rfl (by kernel_rfl) (.iface 91 (.int .i64 9)) idq (fun _ => by kernel_rfl) hS ?_
      refine wpAnyH_done (by kernel_rfl) ?_ _
      simp only [Act.put, List.getElem_toArray, List.getElem_cons_succ, List.getElem_cons_zero, List.setIfInBounds_toArray, List.set_cons_succ, List.set_cons_zero]
      exact key wz gx ⟨hS, hBx, hgx⟩
     next =>
      refine ⟨?_⟩
      refine wpOp_alloc rfl (by kernel_rfl) gdt rfl (.agg (ga zg zg zg false false 0 0)) 52 (fun _ => by kernel_rfl) (by kernel_rfl) ?_
      intro v1 hRx hGa hza
      obtain ⟨gx, egx⟩ : ∃ g, wr.drew.heap.size = g := ⟨_, rfl⟩
      rw [egx] at hRx ⊢
      have hgx : M ≤ gx := by have := hS.size; have := HMR.out; omega
      have hS : Below M wr v1 := below_none hS (by have := hS.size; have := HMR.out; omega) hGa
      refine ⟨hS, ?_⟩
      refine anyH_one 4 (by kernel_rfl) ?_
      refine opH_enter (some 135) rfl (by kernel_rfl) (by kernel_rfl) 31 #[.agg (ga K T0 T1 a b m n), .int .i64 0, .string ⟨#[97, 108, 112, 104, 97]⟩] (fun v wq => v = .tuple #[.agg (ga K T0 T1 a b m n), .iface 91 (.int .i64 9)] ∧ Below v1.heap.size v1 wq) (by kernel_rfl) ((Enter_locked0 K T0 T1 a b m n ⟨#[97, 108, 112, 104, 97]⟩ v1 HK.out H0.out H1.out L0.out).mono fun e wq ⟨q1, q2⟩ => ⟨_, q1, rfl, q2⟩) ?_
      rintro v9 v2 ⟨rfl, hL⟩
      have hRx := hRx.below hL hRx.lt
      have hS := hmr hS hL HMR.out
      refine ⟨hS, ?_⟩
      refine tkw 5 130 rfl rfl (by kernel_rfl) (.tuple #[.agg (ga K T0 T1 a b m n), .iface 91 (.int .i64 9)]) idq (fun _ => by kernel_rfl) hS ?_
      refine tkw 6 136 rfl rfl (by kernel_rfl) (.agg (ga K T0 T1 a b m n)) idq (fun _ => by kernel_rfl) hS ?_
      refine tkw 7 137 rfl rfl (by kernel_rfl) (.iface 91 (.int .i64 9)) idq (fun _ => by kernel_rfl) hS ?_
      refine anyH_one 9 (by kernel_rfl) ?_
      refine ⟨?_⟩
      refine wpOp_storev rfl (by kernel_rfl) gdt _ _ rfl gx gdt 52 (gcs K T0 T1 a b m n) (by kernel_rfl) (by kernel_rfl) hRx (gcs_one _ _ _ _ _ _ _) (gcs_len _ _ _ _ _ _ _ HK.out H0.out H1.out) gdt_i ?_
      intro wz hBx hGx hzx
      have hS : Below M wr wz := below_new hS (by have := hS.size; have := HMR.out; omega) hGx hgx
      refine ⟨hS, ?_⟩
      refine tkw 10 15 rfl rfl (by kernel_rfl) (.iface 91 (.int .i64 9)) idq (fun _ => by kernel_rfl) hS ?_
      refine wpAnyH_done (by kernel_rfl) ?_ _
      simp only [Act.put, List.getElem_toArray, List.getElem_cons_succ, List.getElem_cons_zero, List.setIfInBounds_toArray, List.set_cons_succ, List.set_cons_zero]
      exact key wz gx ⟨hS, hBx, hgx⟩
    rintro wz gx ⟨hS, hBx, hgx⟩
    have hL := HSM.out wz hS
    have hgB : GB wz gx gdt K T0 T1 a b m n := hBx
    have hgM := Lib.hid (show M ≤ gx ∧ M = wr.heap.size from ⟨hgx, HMR.out.symm⟩)
    obtain ⟨Gx, eGx⟩ : ∃ g, gx = g := ⟨_, rfl⟩
    rw [eGx] at hgB hgM ⊢
    obtain ⟨w201, ewz⟩ : ∃ x, wz = x := ⟨_, rfl⟩
    rw [ewz] at hL hgB ⊢
    clear ewz eGx hBx hgx
    clear hgM HCc0 HGk
    clear HSM HMR hS eM
    have hM201 : Below N w w201 := below_more hM200 hL hs200
    have hs201 : N ≤ w201.heap.size := Nat.le_trans hs200 (hL).size
    have g_201 := Lib.hid (g_200.out.next hL)
    clear g_200
    have K_201 := Lib.hid (K_200.out.under hL)
    clear K_200
    have c_201 := Lib.hid (c_200.out.next hL)
    clear c_200
    have E_201 := Lib.hid (E_200.out.below hL)
    clear E_200
    clear hM200 hs200
    have x_201 := Lib.hid (hgB)
    clear hL hgB
    go_wp2_with fail
    obtain ⟨M, eM⟩ : ∃ M, w201.heap.size = M := ⟨_, rfl⟩
    have HSM := Lib.hid (show ∀ wq, Below M w201 wq → Below w201.heap.size w201 wq from fun wq h => by rw [eM]; exact h)
    have HMR := Lib.hid eM
    have hS : Below M w201 w201.drew := ⟨rfl, rfl, rfl, Nat.le_refl _, fun _ _ => rfl⟩
    have HCc1 := Lib.hid (show ∀ wq, Below M w201 wq → wq.cell? ⟨Gc, 1, none⟩ = some (.string ⟨#[111, 109, 101, 103, 97, 50]⟩) from fun wq h => VB.cell (VB.next c_201.out (HSM.out wq h)) 1 _ rfl)
    have HXk := Lib.hid (show ∀ wq, Below M w201 wq → GB wq Gx gdt K T0 T1 a b m n from fun wq h => x_201.out.next (HSM.out wq h))
    refine wp_region_held (S := fun wq => Below M w201 wq) (by kernel_rfl) ?_
    show wpAnyH _ _ _ _ _ 11 _ _ w201.drew
    refine tkl 0 139 rfl rfl (by kernel_rfl) idq (yields_gd (by kernel_rfl) _ rfl Gx gdt K T0 T1 a b m n (by kernel_rfl) (fun wq hq => HXk.out wq hq) HK.out H0.out H1.out) hS ?_
    refine tkw 1 140 rfl rfl (by kernel_rfl) (.slice (some ⟨Gc, 0, none⟩) 2 2) idq (fun _ => by kernel_rfl) hS ?_
    refine tkw 2 141 rfl rfl (by kernel_rfl) (.pointer (some ⟨Gc, 1, none⟩)) idq (fun _ => by kernel_rfl) hS ?_
    refine tkl 3 142 rfl rfl (by kernel_rfl) idq (yields_cell (by kernel_rfl) (.string ⟨#[111, 109, 101, 103, 97, 50]⟩) 9 _ rfl ⟨Gc, 1, none⟩ (by kernel_rfl) (fun w h => load_stry w _ _ h) (fun wq hq => HCc1.out wq hq)) hS ?_
    apply share (fun (wz : World) (gx : Nat) => Below M w201 wz ∧ GB wz gx gdt K T0 T1 a b m n ∧ M ≤ gx)
    case main =>
     intro key
     refine anyH_two 4 8 (by kernel_rfl) ?_ ?_
     next =>
      refine opH_enter (some 143) rfl (by kernel_rfl) (by kernel_rfl) 31 #[.agg (ga K T0 T1 a b m n), .int .i64 1, .string ⟨#[111, 109, 101, 103, 97, 50]⟩] (fun v wq => v = .tuple #[.agg (ga K T0 T1 a b m n), .iface 91 (.int .i64 9)] ∧ Below w201.drew.heap.size w201.drew wq) (by kernel_rfl) ((Enter_locked1 K T0 T1 a b m n ⟨#[111, 109, 101, 103, 97, 50]⟩ w201.drew HK.out H0.out H1.out L1.out).mono fun e wq ⟨q1, q2⟩ => ⟨_, q1, rfl, q2⟩) ?_
      rintro v9 v1 ⟨rfl, hL⟩
      have hS := hmr hS hL HMR.out
      refine ⟨hS, ?_⟩
      refine tkw 5 138 rfl rfl (by kernel_rfl) (.tuple #[.agg (ga K T0 T1 a b m n), .iface 91 (.int .i64 9)]) idq (fun _ => by kernel_rfl) hS ?_
      refine tkw 6 144 rfl rfl (by kernel_rfl) (.agg (ga K T0 T1 a b m n)) idq (fun _ => by kernel_rfl) hS ?_
      refine tkw 7 145 rfl rfl (by kernel_rfl) (.iface 91 (.int .i64 9)) idq (fun _ => by kernel_rfl) hS ?_
      refine anyH_one 8 (by kernel_rfl) ?_
      refine ⟨?_⟩
      refine wpOp_alloc rfl (by kernel_rfl) gdt rfl (.agg (ga zg zg zg false false 0 0)) 52 (fun _ => by kernel_rfl) (by kernel_rfl) ?_
      intro v2 hRx hGa hza
      obtain ⟨gx, egx⟩ : ∃ g, v1.heap.size = g := ⟨_, rfl⟩
      rw [egx] at hRx ⊢
      have hgx : M ≤ gx := by have := hS.size; have := HMR.out; omega
      have hS : Below M w201 v2 := below_none hS (by have := hS.size; have := HMR.out; omega) hGa
      refine ⟨hS, ?_⟩
      refine anyH_one 9 (by kernel_rfl) ?_
      refine ⟨?_⟩
      refine wpOp_storev rfl (by kernel_rfl) gdt _ _ rfl gx gdt 52 (gcs K T0 T1 a b m n) (by kernel_rfl) (by kernel_rfl) hRx (gcs_one _ _ _ _ _ _ _) (gcs_len _ _ _ _ _ _ _ HK.out H0.out H1.out) gdt_i ?_
      intro wz hBx hGx hzx
      have hS : Below M w201 wz := below_new hS (by have := hS.size; have := HMR.out; omega) hGx hgx
      refine ⟨hS, ?_⟩
      refine tkw 10 17 rfl rfl (by kernel_rfl) (.iface 91 (.int .i64 9)) idq (fun _ => by kernel_rfl) hS ?_
      refine wpAnyH_done (by kernel_rfl) ?_ _
      simp only [Act.put, List.getElem_toArray, List.getElem_cons_succ, List.getElem_cons_zero, List.setIfInBounds_toArray, List.set_cons_succ, List.set_cons_zero]
      exact key wz gx ⟨hS, hBx, hgx⟩
     next =>
      refine ⟨?_⟩
      refine wpOp_alloc rfl (by kernel_rfl) gdt rfl (.agg (ga zg zg zg false false 0 0)) 52 (fun _ => by kernel_rfl) (by kernel_rfl) ?_
      intro v1 hRx hGa hza
      obtain ⟨gx, egx⟩ : ∃ g, w201.drew.heap.size = g := ⟨_, rfl⟩
      rw [egx] at hRx ⊢
      have hgx : M ≤ gx := by have := hS.size; have := HMR.out; omega
      have hS : Below M w201 v1 := below_none hS (by have := hS.size; have := HMR.out; omega) hGa
      refine ⟨hS, ?_⟩
      refine anyH_one 4 (by kernel_rfl) ?_
      refine opH_enter (some 143) rfl (by kernel_rfl) (by kernel_rfl) 31 #[.agg (ga K T0 T1 a b m n), .int .i64 1, .string ⟨#[111, 109, 101, 103, 97, 50]⟩] (fun v wq => v = .tuple #[.agg (ga K T0 T1 a b m n), .iface 91 (.int .i64 9)] ∧ Below v1.heap.size v1 wq) (by kernel_rfl) ((Enter_locked1 K T0 T1 a b m n ⟨#[111, 109, 101, 103, 97, 50]⟩ v1 HK.out H0.out H1.out L1.out).mono fun e wq ⟨q1, q2⟩ => ⟨_, q1, rfl, q2⟩) ?_
      rintro v9 v2 ⟨rfl, hL⟩
      have hRx := hRx.below hL hRx.lt
      have hS := hmr hS hL HMR.out
      refine ⟨hS, ?_⟩
      refine tkw 5 138 rfl rfl (by kernel_rfl) (.tuple #[.agg (ga K T0 T1 a b m n), .iface 91 (.int .i64 9)]) idq (fun _ => by kernel_rfl) hS ?_
      refine tkw 6 144 rfl rfl (by kernel_rfl) (.agg (ga K T0 T1 a b m n)) idq (fun _ => by kernel_rfl) hS ?_
      refine tkw 7 145 rfl rfl (by kernel_rfl) (.iface 91 (.int .i64 9)) idq (fun _ => by kernel_rfl) hS ?_
      refine anyH_one 9 (by kernel_rfl) ?_
      refine ⟨?_⟩
      refine wpOp_storev rfl (by kernel_rfl) gdt _ _ rfl gx gdt 52 (gcs K T0 T1 a b m n) (by kernel_rfl) (by kernel_rfl) hRx (gcs_one _ _ _ _ _ _ _) (gcs_len _ _ _ _ _ _ _ HK.out H0.out H1.out) gdt_i ?_
      intro wz hBx hGx hzx
      have hS : Below M w201 wz := below_new hS (by have := hS.size; have := HMR.out; omega) hGx hgx
      refine ⟨hS, ?_⟩
      refine tkw 10 17 rfl rfl (by kernel_rfl) (.iface 91 (.int .i64 9)) idq (fun _ => by kernel_rfl) hS ?_
      refine wpAnyH_done (by kernel_rfl) ?_ _
      simp only [Act.put, List.getElem_toArray, List.getElem_cons_succ, List.getElem_cons_zero, List.setIfInBounds_toArray, List.set_cons_succ, List.set_cons_zero]
      exact key wz gx ⟨hS, hBx, hgx⟩
    rintro wz gx ⟨hS, hBx, hgx⟩
    have hL := HSM.out wz hS
    have hgB : GB wz gx gdt K T0 T1 a b m n := hBx
    have hgM := Lib.hid (show M ≤ gx ∧ M = w201.heap.size from ⟨hgx, HMR.out.symm⟩)
    obtain ⟨Gy, eGy⟩ : ∃ g, gx = g := ⟨_, rfl⟩
    rw [eGy] at hgB hgM ⊢
    obtain ⟨w202, ewz⟩ : ∃ x, wz = x := ⟨_, rfl⟩
    rw [ewz] at hL hgB ⊢
    clear ewz eGy hBx hgx
    clear hgM HCc1 HXk
    clear HSM HMR hS eM
    have hM202 : Below N w w202 := below_more hM201 hL hs201
    have hs202 : N ≤ w202.heap.size := Nat.le_trans hs201 (hL).size
    have g_202 := Lib.hid (g_201.out.next hL)
    clear g_201
    have K_202 := Lib.hid (K_201.out.under hL)
    clear K_201
    have c_202 := Lib.hid (c_201.out.next hL)
    clear c_201
    have E_202 := Lib.hid (E_201.out.below hL)
    clear E_201
    have x_202 := Lib.hid (x_201.out.next hL)
    clear x_201
    clear hM201 hs201
    have y_202 := Lib.hid (hgB)
    clear hL hgB
    have cb0 := g_202.out.bad0 HK.out H0.out H1.out
    have cb1 := g_202.out.bad1 HK.out H0.out H1.out
    have j0 : (5 : Int) ≤ m := by have := L0.out; omega
    have j1 : (5 : Int) ≤ n := by have := L1.out; omega
    go_wp2_with fail
    clear cb0 cb1
    obtain ⟨M, eM⟩ : ∃ M, w202.heap.size = M := ⟨_, rfl⟩
    have HSM := Lib.hid (show ∀ wq, Below M w202 wq → Below w202.heap.size w202 wq from fun wq h => by rw [eM]; exact h)
    have HMR := Lib.hid eM
    have hS : Below M w202 w202.drew := ⟨rfl, rfl, rfl, Nat.le_refl _, fun _ _ => rfl⟩
    have HYk := Lib.hid (show ∀ wq, Below M w202 wq → GB wq Gy gdt K T0 T1 a b m n from fun wq h => y_202.out.next (HSM.out wq h))
    refine wp_region_held (S := fun wq => Below M w202 wq) (by kernel_rfl) ?_
    show wpAnyH _ _ _ _ _ 22 _ _ w202.drew
    refine tkl 0 156 rfl rfl (by kernel_rfl) idq (yields_gd (by kernel_rfl) _ rfl Gy gdt K T0 T1 a b m n (by kernel_rfl) (fun wq hq => HYk.out wq hq) HK.out H0.out H1.out) hS ?_
    refine tkw 3 159 rfl rfl (by kernel_rfl) (.iface 91 (.int .i64 9)) idq (fun _ => by kernel_rfl) hS ?_
    refine tkw 4 160 rfl rfl (by kernel_rfl) (.bool false) idq (fun _ => by kernel_rfl) hS ?_
    refine anyH_one 1 (by kernel_rfl) ?_
    refine opH_enter (some 157) rfl (by kernel_rfl) (by kernel_rfl) 32 #[.agg (ga K T0 T1 a b m n)] (fun v wq => (∃ T x, v = .iface T x) ∧ Below w202.drew.heap.size w202.drew wq) (by kernel_rfl) ((BothG_no K T0 T1 a b m n w202.drew HK.out H0.out H1.out (by have h : a = false := (by cases ha : a with | false => rfl | true => (have := HAM.out ha; have := L0.out; omega)); rw [h]; rfl)).mono fun e wq ⟨v, q1, q2, q3⟩ => ⟨v, q1, q2.form, q3⟩) ?_
    rintro v9 v1 ⟨⟨vT, vX, rfl⟩, hL⟩
    have hS := hmr hS hL HMR.out
    refine ⟨hS, ?_⟩
    refine tkw 2 158 rfl rfl (by kernel_rfl) (.bool false) idq (fun _ => by kernel_rfl) hS ?_
    refine tkw 5 161 rfl rfl (by kernel_rfl) (.bool false) idq (fun _ => by kernel_rfl) hS ?_
    refine tkn 6 162 rfl rfl (by kernel_rfl) idq hS ?_
    refine tkn 7 163 rfl rfl (by kernel_rfl) idq hS ?_
    refine tkw 8 164 rfl rfl (by kernel_rfl) (.bool false) idq (fun _ => by kernel_rfl) hS ?_
    refine tkw 9 165 rfl rfl (by kernel_rfl) (.bool true) idq (fun _ => by kernel_rfl) hS ?_
    refine tkw 10 166 rfl rfl (by kernel_rfl) (.bool true) idq (fun _ => by kernel_rfl) hS ?_
    refine tkw 11 167 rfl rfl (by kernel_rfl) (.iface 91 (.int .i64 9)) idq (fun _ => by kernel_rfl) hS ?_
    refine tkw 12 168 rfl rfl (by kernel_rfl) (.bool false) idq (fun _ => by kernel_rfl) hS ?_
    refine tkw 13 169 rfl rfl (by kernel_rfl) (.bool false) idq (fun _ => by kernel_rfl) hS ?_
    refine tkn 14 170 rfl rfl (by kernel_rfl) idq hS ?_
    refine tkn 15 171 rfl rfl (by kernel_rfl) idq hS ?_
    refine tkw 16 172 rfl rfl (by kernel_rfl) (.bool false) idq (fun _ => by kernel_rfl) hS ?_
    refine tkw 17 173 rfl rfl (by kernel_rfl) (.bool false) idq (fun _ => by kernel_rfl) hS ?_
    refine tkw 18 174 rfl rfl (by kernel_rfl) (.bool true) idq (fun _ => by kernel_rfl) hS ?_
    refine tkw 19 175 rfl rfl (by kernel_rfl) (.bool true) idq (fun _ => by kernel_rfl) hS ?_
    refine tkw 20 176 rfl rfl (by kernel_rfl) (.bool true) idq (fun _ => by kernel_rfl) hS ?_
    refine tkw 21 6 rfl rfl (by kernel_rfl) (.bool true) idq (fun _ => by kernel_rfl) hS ?_
    refine wpAnyH_done (by kernel_rfl) ?_ _
    simp only [Act.put, List.getElem_toArray, List.getElem_cons_succ, List.getElem_cons_zero, List.setIfInBounds_toArray, List.set_cons_succ, List.set_cons_zero]
    have hL := HSM.out v1 hS
    have hMz := below_more hM202 hL hs202
    go_wp2
    go_ret
    exact ⟨rfl, by first | exact hMz | (rw [HN.out]; exact hMz)⟩
   next =>
    skip
    have g_200 := Lib.hid hg9
    have K_200 := Lib.hid hK9
    have c_200 := Lib.hid hc9
    have E_200 := Lib.hid hE9
    have hM200 := hM9
    have hs200 := hs9
    clear hg9 hK9 hc9 hE9 hM9 hs9
    skip
    have L0 := Lib.hid l0
    have L1 := Lib.hid l1
    clear l0 l1
    go_wp2_with fail
    obtain ⟨M, eM⟩ : ∃ M, wr.heap.size = M := ⟨_, rfl⟩
    have HSM := Lib.hid (show ∀ wq, Below M wr wq → Below wr.heap.size wr wq from fun wq h => by rw [eM]; exact h)
    have HMR := Lib.hid eM
    have hS : Below M wr wr.drew := ⟨rfl, rfl, rfl, Nat.le_refl _, fun _ _ => rfl⟩
    have HCc0 := Lib.hid (show ∀ wq, Below M wr wq → wq.cell? ⟨Gc, 0, none⟩ = some (.string ⟨#[97, 108, 112, 104, 97]⟩) from fun wq h => VB.cell (VB.next c_200.out (HSM.out wq h)) 0 _ rfl)
    have HGk := Lib.hid (show ∀ wq, Below M wr wq → GB wq Gg gdt K T0 T1 a b m n from fun wq h => g_200.out.next (HSM.out wq h))
    refine wp_region_held (S := fun wq => Below M wr wq) (by kernel_rfl) ?_
    show wpAnyH _ _ _ _ _ 11 _ _ wr.drew
    refine tkl 0 131 rfl rfl (by kernel_rfl) idq (yields_gd (by kernel_rfl) _ rfl Gg gdt K T0 T1 a b m n (by kernel_rfl) (fun wq hq => HGk.out wq hq) HK.out H0.out H1.out) hS ?_
    refine tkw 1 132 rfl rfl (by kernel_rfl) (.slice (some ⟨Gc, 0, none⟩) 2 2) idq (fun _ => by kernel_rfl) hS ?_
    refine tkw 2 133 rfl rfl (by kernel_rfl) (.pointer (some ⟨Gc, 0, none⟩)) idq (fun _ => by kernel_rfl) hS ?_
    refine tkl 3 134 rfl rfl (by kernel_rfl) idq (yields_cell (by kernel_rfl) (.string ⟨#[97, 108, 112, 104, 97]⟩) 9 _ rfl ⟨Gc, 0, none⟩ (by kernel_rfl) (fun w h => load_stry w _ _ h) (fun wq hq => HCc0.out wq hq)) hS ?_
    apply share (fun (wz : World) (gx : Nat) => Below M wr wz ∧ GB wz gx gdt K T0 T1 a b m n ∧ M ≤ gx)
    case main =>
     intro key
     refine anyH_two 4 8 (by kernel_rfl) ?_ ?_
     next =>
      refine opH_enter (some 135) rfl (by kernel_rfl) (by kernel_rfl) 31 #[.agg (ga K T0 T1 a b m n), .int .i64 0, .string ⟨#[97, 108, 112, 104, 97]⟩] (fun v wq => v = .tuple #[.agg (ga K T0 T1 a b m n), .iface 91 (.int .i64 9)] ∧ Below wr.drew.heap.size wr.drew wq) (by kernel_rfl) ((Enter_locked0 K T0 T1 a b m n ⟨#[97, 108, 112, 104, 97]⟩ wr.drew HK.out H0.out H1.out L0.out).mono fun e wq ⟨q1, q2⟩ => ⟨_, q1, rfl, q2⟩) ?_
      rintro v9 v1 ⟨rfl, hL⟩
      have hS := hmr hS hL HMR.out
      refine ⟨hS, ?_⟩
      refine tkw 5 130 rfl rfl (by kernel_rfl) (.tuple #[.agg (ga K T0 T1 a b m n), .iface 91 (.int .i64 9)]) idq (fun _ => by kernel_rfl) hS ?_
      refine tkw 6 136 rfl rfl (by kernel_rfl) (.agg (ga K T0 T1 a b m n)) idq (fun _ => by kernel_rfl) hS ?_
      refine tkw 7 137 rfl rfl (by kernel_rfl) (.iface 91 (.int .i64 9)) idq (fun _ => by kernel_rfl) hS ?_
      refine anyH_one 8 (by kernel_rfl) ?_
      refine ⟨?_⟩
      refine wpOp_alloc rfl (by kernel_rfl) gdt rfl (.agg (ga zg zg zg false false 0 0)) 52 (fun _ => by kernel_rfl) (by kernel_rfl) ?_
      intro v2 hRx hGa hza
      obtain ⟨gx, egx⟩ : ∃ g, v1.heap.size = g := ⟨_, rfl⟩
      rw [egx] at hRx ⊢
      have hgx : M ≤ gx := by have := hS.size; have := HMR.out; omega
      have hS : Below M wr v2 := below_none hS (by have := hS.size; have := HMR.out; omega) hGa
      refine ⟨hS, ?_⟩
      refine anyH_one 9 (by kernel_rfl) ?_
      refine ⟨?_⟩
      refine wpOp_storev rfl (by kernel_rfl) gdt _ _ rfl gx gdt 52 (gcs K T0 T1 a b m n) (by kernel_rfl) (by kernel_rfl) hRx (gcs_one _ _ _ _ _ _ _) (gcs_len _ _ _ _ _ _ _ HK.out H0.out H1.out) gdt_i ?_
      intro wz hBx hGx hzx
      have hS : Below M wr wz := below_new hS (by have := hS.size; have := HMR.out; omega) hGx hgx
      refine ⟨hS, ?_⟩
      refine tkw 10 15 rfl rfl (by kernel_rfl) (.iface 91 (.int .i64 9)) idq (fun _ => by kernel_rfl) hS ?_
      refine wpAnyH_done (by kernel_rfl) ?_ _
      simp only [Act.put, List.getElem_toArray, List.getElem_cons_succ, List.getElem_cons_zero, List.setIfInBounds_toArray, List.set_cons_succ, List.set_cons_zero]
      exact key wz gx ⟨hS, hBx, hgx⟩
     next =>
      refine ⟨?_⟩
      refine wpOp_alloc rfl (by kernel_rfl) gdt rfl (.agg (ga zg zg zg false false 0 0)) 52 (fun _ => by kernel_rfl) (by kernel_rfl) ?_
      intro v1 hRx hGa hza
      obtain ⟨gx, egx⟩ : ∃ g, wr.drew.heap.size = g := ⟨_, rfl⟩
      rw [egx] at hRx ⊢
      have hgx : M ≤ gx := by have := hS.size; have := HMR.out; omega
      have hS : Below M wr v1 := below_none hS (by have := hS.size; have := HMR.out; omega) hGa
      refine ⟨hS, ?_⟩
      refine anyH_one 4 (by kernel_rfl) ?_
      refine opH_enter (some 135) rfl (by kernel_rfl) (by kernel_rfl) 31 #[.agg (ga K T0 T1 a b m n), .int .i64 0, .string ⟨#[97, 108, 112, 104, 97]⟩] (fun v wq => v = .tuple #[.agg (ga K T0 T1 a b m n), .iface 91 (.int .i64 9)] ∧ Below v1.heap.size v1 wq) (by kernel_rfl) ((Enter_locked0 K T0 T1 a b m n ⟨#[97, 108, 112, 104, 97]⟩ v1 HK.out H0.out H1.out L0.out).mono fun e wq ⟨q1, q2⟩ => ⟨_, q1, rfl, q2⟩) ?_
      rintro v9 v2 ⟨rfl, hL⟩
      have hRx := hRx.below hL hRx.lt
      have hS := hmr hS hL HMR.out
      refine ⟨hS, ?_⟩
      refine tkw 5 130 rfl rfl (by kernel_rfl) (.tuple #[.agg (ga K T0 T1 a b m n), .iface 91 (.int .i64 9)]) idq (fun _ => by kernel_rfl) hS ?_
      refine tkw 6 136 rfl rfl (by kernel_rfl) (.agg (ga K T0 T1 a b m n)) idq (fun _ => by kernel_rfl) hS ?_
      refine tkw 7 137 rfl rfl (by kernel_rfl) (.iface 91 (.int .i64 9)) idq (fun _ => by kernel_rfl) hS ?_
      refine anyH_one 9 (by kernel_rfl) ?_
      refine ⟨?_⟩
      refine wpOp_storev rfl (by kernel_rfl) gdt _ _ rfl gx gdt 52 (gcs K T0 T1 a b m n) (by kernel_rfl) (by kernel_rfl) hRx (gcs_one _ _ _ _ _ _ _) (gcs_len _ _ _ _ _ _ _ HK.out H0.out H1.out) gdt_i ?_
      intro wz hBx hGx hzx
      have hS : Below M wr wz := below_new hS (by have := hS.size; have := HMR.out; omega) hGx hgx
      refine ⟨hS, ?_⟩
      refine tkw 10 15 rfl rfl (by kernel_rfl) (.iface 91 (.int .i64 9)) idq (fun _ => by kernel_rfl) hS ?_
      refine wpAnyH_done (by kernel_rfl) ?_ _
      simp only [Act.put, List.getElem_toArray, List.getElem_cons_succ, List.getElem_cons_zero, List.setIfInBounds_toArray, List.set_cons_succ, List.set_cons_zero]
      exact key wz gx ⟨hS, hBx, hgx⟩
    rintro wz gx ⟨hS, hBx, hgx⟩
    have hL := HSM.out wz hS
    have hgB : GB wz gx gdt K T0 T1 a b m n := hBx
    have hgM := Lib.hid (show M ≤ gx ∧ M = wr.heap.size from ⟨hgx, HMR.out.symm⟩)
    obtain ⟨Gx, eGx⟩ : ∃ g, gx = g := ⟨_, rfl⟩
    rw [eGx] at hgB hgM ⊢
    obtain ⟨w201, ewz⟩ : ∃ x, wz = x := ⟨_, rfl⟩
    rw [ewz] at hL hgB ⊢
    clear ewz eGx hBx hgx
    clear hgM HCc0 HGk
    clear HSM HMR hS eM
    have hM201 : Below N w w201 := below_more hM200 hL hs200
    have hs201 : N ≤ w201.heap.size := Nat.le_trans hs200 (hL).size
    have g_201 := Lib.hid (g_200.out.next hL)
    clear g_200
    have K_201 := Lib.hid (K_200.out.under hL)
    clear K_200
    have c_201 := Lib.hid (c_200.out.next hL)
    clear c_200
    have E_201 := Lib.hid (E_200.out.below hL)
    clear E_200
    clear hM200 hs200
    have x_201 := Lib.hid (hgB)
    clear hL hgB
    go_wp2_with fail
    obtain ⟨M, eM⟩ : ∃ M, w201.heap.size = M := ⟨_, rfl⟩
    have HSM := Lib.hid (show ∀ wq, Below M w201 wq → Below w201.heap.size w201 wq from fun wq h => by rw [eM]; exact h)
    have HMR := Lib.hid eM
    have hS : Below M w201 w201.drew := ⟨rfl, rfl, rfl, Nat.le_refl _, fun _ _ => rfl⟩
    have HCc1 := Lib.hid (show ∀ wq, Below M w201 wq → wq.cell? ⟨Gc, 1, none⟩ = some (.string ⟨#[111, 109, 101, 103, 97, 50]⟩) from fun wq h => VB.cell (VB.next c_201.out (HSM.out wq h)) 1 _ rfl)
    have HXk := Lib.hid (show ∀ wq, Below M w201 wq → GB wq Gx gdt K T0 T1 a b m n from fun wq h => x_201.out.next (HSM.out wq h))
    refine wp_region_held (S := fun wq => Below M w201 wq) (by kernel_rfl) ?_
    show wpAnyH _ _ _ _ _ 11 _ _ w201.drew
    refine tkl 0 139 rfl rfl (by kernel_rfl) idq (yields_gd (by kernel_rfl) _ rfl Gx gdt K T0 T1 a b m n (by kernel_rfl) (fun wq hq => HXk.out wq hq) HK.out H0.out H1.out) hS ?_
    refine tkw 1 140 rfl rfl (by kernel_rfl) (.slice (some ⟨Gc, 0, none⟩) 2 2) idq (fun _ => by kernel_rfl) hS ?_
    refine tkw 2 141 rfl rfl (by kernel_rfl) (.pointer (some ⟨Gc, 1, none⟩)) idq (fun _ => by kernel_rfl) hS ?_
    refine tkl 3 142 rfl rfl (by kernel_rfl) idq (yields_cell (by kernel_rfl) (.string ⟨#[111, 109, 101, 103, 97, 50]⟩) 9 _ rfl ⟨Gc, 1, none⟩ (by kernel_rfl) (fun w h => load_stry w _ _ h) (fun wq hq => HCc1.out wq hq)) hS ?_
    apply share (fun (wz : World) (gx : Nat) => Below M w201 wz ∧ GB wz gx gdt K T0 T1 a true m 0 ∧ M ≤ gx)
    case main =>
     intro key
     refine anyH_two 4 8 (by kernel_rfl) ?_ ?_
     next =>
      refine opH_enter (some 143) rfl (by kernel_rfl) (by kernel_rfl) 31 #[.agg (ga K T0 T1 a b m n), .int .i64 1, .string ⟨#[111, 109, 101, 103, 97, 50]⟩] (fun v wq => v = .tuple #[.agg (ga K T0 T1 a true m 0), .nilIface] ∧ Below w201.drew.heap.size w201.drew wq) (by kernel_rfl) ((Enter_yes1 K T0 T1 a b m n ⟨#[111, 109, 101, 103, 97, 50]⟩ w201.drew HK.out H0.out H1.out HNZ.out (by have := L1.out; omega) (by decide) (by decide) ET1.out).mono fun e wq ⟨q1, q2⟩ => ⟨_, q1, rfl, q2⟩) ?_
      rintro v9 v1 ⟨rfl, hL⟩
      have hS := hmr hS hL HMR.out
      refine ⟨hS, ?_⟩
      refine tkw 5 138 rfl rfl (by kernel_rfl) (.tuple #[.agg (ga K T0 T1 a true m 0), .nilIface]) idq (fun _ => by kernel_rfl) hS ?_
      refine tkw 6 144 rfl rfl (by kernel_rfl) (.agg (ga K T0 T1 a true m 0)) idq (fun _ => by kernel_rfl) hS ?_
      refine tkw 7 145 rfl rfl (by kernel_rfl) (.nilIface) idq (fun _ => by kernel_rfl) hS ?_
      refine anyH_one 8 (by kernel_rfl) ?_
      refine ⟨?_⟩
      refine wpOp_alloc rfl (by kernel_rfl) gdt rfl (.agg (ga zg zg zg false false 0 0)) 52 (fun _ => by kernel_rfl) (by kernel_rfl) ?_
      intro v2 hRx hGa hza
      obtain ⟨gx, egx⟩ : ∃ g, v1.heap.size = g := ⟨_, rfl⟩
      rw [egx] at hRx ⊢
      have hgx : M ≤ gx := by have := hS.size; have := HMR.out; omega
      have hS : Below M w201 v2 := below_none hS (by have := hS.size; have := HMR.out; omega) hGa
      refine ⟨hS, ?_⟩
      refine anyH_one 9 (by kernel_rfl) ?_
      refine ⟨?_⟩
      refine wpOp_storev rfl (by kernel_rfl) gdt _ _ rfl gx gdt 52 (gcs K T0 T1 a true m 0) (by kernel_rfl) (by kernel_rfl) hRx (gcs_one _ _ _ _ _ _ _) (gcs_len _ _ _ _ _ _ _ HK.out H0.out H1.out) gdt_i ?_
      intro wz hBx hGx hzx
      have hS : Below M w201 wz := below_new hS (by have := hS.size; have := HMR.out; omega) hGx hgx
      refine ⟨hS, ?_⟩
      refine tkw 10 17 rfl rfl (by kernel_rfl) (.nilIface) idq (fun _ => by kernel_rfl) hS ?_
      refine wpAnyH_done (by kernel_rfl) ?_ _
      simp only [Act.put, List.getElem_toArray, List.getElem_cons_succ, List.getElem_cons_zero, List.setIfInBounds_toArray, List.set_cons_succ, List.set_cons_zero]
      exact key wz gx ⟨hS, hBx, hgx⟩
     next =>
      refine ⟨?_⟩
      refine wpOp_alloc rfl (by kernel_rfl) gdt rfl (.agg (ga zg zg zg false false 0 0)) 52 (fun _ => by kernel_rfl) (by kernel_rfl) ?_
      intro v1 hRx hGa hza
      obtain ⟨gx, egx⟩ : ∃ g, w201.drew.heap.size = g := ⟨_, rfl⟩
      rw [egx] at hRx ⊢
      have hgx : M ≤ gx := by have := hS.size; have := HMR.out; omega
      have hS : Below M w201 v1 := below_none hS (by have := hS.size; have := HMR.out; omega) hGa
      refine ⟨hS, ?_⟩
      refine anyH_one 4 (by kernel_rfl) ?_
      refine opH_enter (some 143) rfl (by kernel_rfl) (by kernel_rfl) 31 #[.agg (ga K T0 T1 a b m n), .int .i64 1, .string ⟨#[111, 109, 101, 103, 97, 50]⟩] (fun v wq => v = .tuple #[.agg (ga K T0 T1 a true m 0), .nilIface] ∧ Below v1.heap.size v1 wq) (by kernel_rfl) ((Enter_yes1 K T0 T1 a b m n ⟨#[111, 109, 101, 103, 97, 50]⟩ v1 HK.out H0.out H1.out HNZ.out (by have := L1.out; omega) (by decide) (by decide) ET1.out).mono fun e wq ⟨q1, q2⟩ => ⟨_, q1, rfl, q2⟩) ?_
      rintro v9 v2 ⟨rfl, hL⟩
      have hRx := hRx.below hL hRx.lt
      have hS := hmr hS hL HMR.out
      refine ⟨hS, ?_⟩
      refine tkw 5 138 rfl rfl (by kernel_rfl) (.tuple #[.agg (ga K T0 T1 a true m 0), .nilIface]) idq (fun _ => by kernel_rfl) hS ?_
      refine tkw 6 144 rfl rfl (by kernel_rfl) (.agg (ga K T0 T1 a true m 0)) idq (fun _ => by kernel_rfl) hS ?_
      refine tkw 7 145 rfl rfl (by kernel_rfl) (.nilIface) idq (fun _ => by kernel_rfl) hS ?_
      refine anyH_one 9 (by kernel_rfl) ?_
      refine ⟨?_⟩
      refine wpOp_storev rfl (by kernel_rfl) gdt _ _ rfl gx gdt 52 (gcs K T0 T1 a true m 0) (by kernel_rfl) (by kernel_rfl) hRx (gcs_one _ _ _ _ _ _ _) (gcs_len _ _ _ _ _ _ _ HK.out H0.out H1.out) gdt_i ?_
      intro wz hBx hGx hzx
      have hS : Below M w201 wz := below_new hS (by have := hS.size; have := HMR.out; omega) hGx hgx
      refine ⟨hS, ?_⟩
      refine tkw 10 17 rfl rfl (by kernel_rfl) (.nilIface) idq (fun _ => by kernel_rfl) hS ?_
      refine wpAnyH_done (by kernel_rfl) ?_ _
      simp only [Act.put, List.getElem_toArray, List.getElem_cons_succ, List.getElem_cons_zero, List.setIfInBounds_toArray, List.set_cons_succ, List.set_cons_zero]
      exact key wz gx ⟨hS, hBx, hgx⟩
    rintro wz gx ⟨hS, hBx, hgx⟩
    have hL := HSM.out wz hS
    have hgB : GB wz gx gdt K T0 T1 a true m 0 := hBx
    have hgM := Lib.hid (show M ≤ gx ∧ M = w201.heap.size from ⟨hgx, HMR.out.symm⟩)
    obtain ⟨Gy, eGy⟩ : ∃ g, gx = g := ⟨_, rfl⟩
    rw [eGy] at hgB hgM ⊢
    obtain ⟨w202, ewz⟩ : ∃ x, wz = x := ⟨_, rfl⟩
    rw [ewz] at hL hgB ⊢
    clear ewz eGy hBx hgx
    clear hgM HCc1 HXk
    clear HSM HMR hS eM
    have hM202 : Below N w w202 := below_more hM201 hL hs201
    have hs202 : N ≤ w202.heap.size := Nat.le_trans hs201 (hL).size
    have g_202 := Lib.hid (g_201.out.next hL)
    clear g_201
    have K_202 := Lib.hid (K_201.out.under hL)
    clear K_201
    have c_202 := Lib.hid (c_201.out.next hL)
    clear c_201
    have E_202 := Lib.hid (E_201.out.below hL)
    clear E_201
    have x_202 := Lib.hid (x_201.out.next hL)
    clear x_201
    clear hM201 hs201
    have y_202 := Lib.hid (hgB)
    clear hL hgB
    have cb0 := g_202.out.bad0 HK.out H0.out H1.out
    have cb1 := g_202.out.bad1 HK.out H0.out H1.out
    have j0 : (5 : Int) ≤ m := by have := L0.out; omega
    have j1 : ¬ (5 : Int) ≤ n := by have := L1.out; omega
    go_wp2_with fail
    clear cb0 cb1
    obtain ⟨M, eM⟩ : ∃ M, w202.heap.size = M := ⟨_, rfl⟩
    have HSM := Lib.hid (show ∀ wq, Below M w202 wq → Below w202.heap.size w202 wq from fun wq h => by rw [eM]; exact h)
    have HMR := Lib.hid eM
    have hS : Below M w202 w202.drew := ⟨rfl, rfl, rfl, Nat.le_refl _, fun _ _ => rfl⟩
    have HYk := Lib.hid (show ∀ wq, Below M w202 wq → GB wq Gy gdt K T0 T1 a true m 0 from fun wq h => y_202.out.next (HSM.out wq h))
    refine wp_region_held (S := fun wq => Below M w202 wq) (by kernel_rfl) ?_
    show wpAnyH _ _ _ _ _ 22 _ _ w202.drew
    refine tkl 0 156 rfl rfl (by kernel_rfl) idq (yields_gd (by kernel_rfl) _ rfl Gy gdt K T0 T1 a true m 0 (by kernel_rfl) (fun wq hq => HYk.out wq hq) HK.out H0.out H1.out) hS ?_
    refine tkw 3 159 rfl rfl (by kernel_rfl) (.iface 91 (.int .i64 9)) idq (fun _ => by kernel_rfl) hS ?_
    refine tkw 4 160 rfl rfl (by kernel_rfl) (.bool false) idq (fun _ => by kernel_rfl) hS ?_
    refine anyH_one 1 (by kernel_rfl) ?_
    refine opH_enter (some 157) rfl (by kernel_rfl) (by kernel_rfl) 32 #[.agg (ga K T0 T1 a true m 0)] (fun v wq => (∃ T x, v = .iface T x) ∧ Below w202.drew.heap.size w202.drew wq) (by kernel_rfl) ((BothG_no K T0 T1 a true m 0 w202.drew HK.out H0.out H1.out (by have h : a = false := (by cases ha : a with | false => rfl | true => (have := HAM.out ha; have := L0.out; omega)); rw [h]; rfl)).mono fun e wq ⟨v, q1, q2, q3⟩ => ⟨v, q1, q2.form, q3⟩) ?_
    rintro v9 v1 ⟨⟨vT, vX, rfl⟩, hL⟩
    have hS := hmr hS hL HMR.out
    refine ⟨hS, ?_⟩
    refine tkw 2 158 rfl rfl (by kernel_rfl) (.bool false) idq (fun _ => by kernel_rfl) hS ?_
    refine tkw 5 161 rfl rfl (by kernel_rfl) (.bool false) idq (fun _ => by kernel_rfl) hS ?_
    refine tkn 6 162 rfl rfl (by kernel_rfl) idq hS ?_
    refine tkn 7 163 rfl rfl (by kernel_rfl) idq hS ?_
    refine tkw 8 164 rfl rfl (by kernel_rfl) (.bool false) idq (fun _ => by kernel_rfl) hS ?_
    refine tkw 9 165 rfl rfl (by kernel_rfl) (.bool true) idq (fun _ => by kernel_rfl) hS ?_
    refine tkw 10 166 rfl rfl (by kernel_rfl) (.bool true) idq (fun _ => by kernel_rfl) hS ?_
    refine tkw 11 167 rfl rfl (by kernel_rfl) (.iface 91 (.int .i64 9)) idq (fun _ => by kernel_rfl) hS ?_
    refine tkw 12 168 rfl rfl (by kernel_rfl) (.bool false) idq (fun _ => by kernel_rfl) hS ?_
    refine tkw 13 169 rfl rfl (by kernel_rfl) (.bool false) idq (fun _ => by kernel_rfl) hS ?_
    refine tkn 14 170 rfl rfl (by kernel_rfl) idq hS ?_
    refine tkn 15 171 rfl rfl (by kernel_rfl) idq hS ?_
    refine tkw 16 172 rfl rfl (by kernel_rfl) (.bool false) idq (fun _ => by kernel_rfl) hS ?_
    refine tkw 17 173 rfl rfl (by kernel_rfl) (.bool false) idq (fun _ => by kernel_rfl) hS ?_
    refine tkw 18 174 rfl rfl (by kernel_rfl) (.bool true) idq (fun _ => by kernel_rfl) hS ?_
    refine tkw 19 175 rfl rfl (by kernel_rfl) (.bool true) idq (fun _ => by kernel_rfl) hS ?_
    refine tkw 20 176 rfl rfl (by kernel_rfl) (.bool true) idq (fun _ => by kernel_rfl) hS ?_
    refine tkw 21 6 rfl rfl (by kernel_rfl) (.bool true) idq (fun _ => by kernel_rfl) hS ?_
    refine wpAnyH_done (by kernel_rfl) ?_ _
    simp only [Act.put, List.getElem_toArray, List.getElem_cons_succ, List.getElem_cons_zero, List.setIfInBounds_toArray, List.set_cons_succ, List.set_cons_zero]
    have hL := HSM.out v1 hS
    have hMz := below_more hM202 hL hs202
    go_wp2
    go_ret
    exact ⟨rfl, by first | exact hMz | (rw [HN.out]; exact hMz)⟩
   next =>
    skip
    have g_200 := Lib.hid hg9
    have K_200 := Lib.hid hK9
    have c_200 := Lib.hid hc9
    have E_200 := Lib.hid hE9
    have hM200 := hM9
    have hs200 := hs9
    clear hg9 hK9 hc9 hE9 hM9 hs9
    skip
    have L0 := Lib.hid l0
    have L1 := Lib.hid l1
    clear l0 l1
    go_wp2_with fail
    obtain ⟨M, eM⟩ : ∃ M, wr.heap.size = M := ⟨_, rfl⟩
    have HSM := Lib.hid (show ∀ wq, Below M wr wq → Below wr.heap.size wr wq from fun wq h => by rw [eM]; exact h)
    have HMR := Lib.hid eM
    have hS : Below M wr wr.drew := ⟨rfl, rfl, rfl, Nat.le_refl _, fun _ _ => rfl⟩
    have HCc0 := Lib.hid (show ∀ wq, Below M wr wq → wq.cell? ⟨Gc, 0, none⟩ = some (.string ⟨#[97, 108, 112, 104, 97]⟩) from fun wq h => VB.cell (VB.next c_200.out (HSM.out wq h)) 0 _ rfl)
    have HGk := Lib.hid (show ∀ wq, Below M wr wq → GB wq Gg gdt K T0 T1 a b m n from fun wq h => g_200.out.next (HSM.out wq h))
    refine wp_region_held (S := fun wq => Below M wr wq) (by kernel_rfl) ?_
    show wpAnyH _ _ _ _ _ 11 _ _ wr.drew
    refine tkl 0 131 rfl rfl (by kernel_rfl) idq (yields_gd (by kernel_rfl) _ rfl Gg gdt K T0 T1 a b m n (by kernel_rfl) (fun wq hq => HGk.out wq hq) HK.out H0.out H1.out) hS ?_
    refine tkw 1 132 rfl rfl (by kernel_rfl) (.slice (some ⟨Gc, 0, none⟩) 2 2) idq (fun _ => by kernel_rfl) hS ?_
    refine tkw 2 133 rfl rfl (by kernel_rfl) (.pointer (some ⟨Gc, 0, none⟩)) idq (fun _ => by kernel_rfl) hS ?_
    refine tkl 3 134 rfl rfl (by kernel_rfl) idq (yields_cell (by kernel_rfl) (.string ⟨#[97, 108, 112, 104, 97]⟩) 9 _ rfl ⟨Gc, 0, none⟩ (by kernel_rfl) (fun w h => load_stry w _ _ h) (fun wq hq => HCc0.out wq hq)) hS ?_
    apply share (fun (wz : World) (gx : Nat) => Below M wr wz ∧ GB wz gx gdt K T0 T1 true b 0 n ∧ M ≤ gx)
    case main =>
     intro key
     refine anyH_two 4 8 (by kernel_rfl) ?_ ?_
     next =>
      refine opH_enter (some 135) rfl (by kernel_rfl) (by kernel_rfl) 31 #[.agg (ga K T0 T1 a b m n), .int .i64 0, .string ⟨#[97, 108, 112, 104, 97]⟩] (fun v wq => v = .tuple #[.agg (ga K T0 T1 true b 0 n), .nilIface] ∧ Below wr.drew.heap.size wr.drew wq) (by kernel_rfl) ((Enter_yes0 K T0 T1 a b m n ⟨#[97, 108, 112, 104, 97]⟩ wr.drew HK.out H0.out H1.out HMZ.out (by have := L0.out; omega) (by decide) (by decide) ET0.out).mono fun e wq ⟨q1, q2⟩ => ⟨_, q1, rfl, q2⟩) ?_
      rintro v9 v1 ⟨rfl, hL⟩
      have hS := hmr hS hL HMR.out
      refine ⟨hS, ?_⟩
      refine tkw 5 130 rfl rfl (by kernel_rfl) (.tuple #[.agg (ga K T0 T1 true b 0 n), .nilIface]) idq (fun _ => by kernel_rfl) hS ?_
      refine tkw 6 136 rfl rfl (by kernel_rfl) (.agg (ga K T0 T1 true b 0 n)) idq (fun _ => by kernel_rfl) hS ?_
      refine tkw 7 137 rfl rfl (by kernel_rfl) (.nilIface) idq (fun _ => by kernel_rfl) hS ?_
      refine anyH_one 8 (by kernel_rfl) ?_
      refine ⟨?_⟩
      refine wpOp_alloc rfl (by kernel_rfl) gdt rfl (.agg (ga zg zg zg false false 0 0)) 52 (fun _ => by kernel_rfl) (by kernel_rfl) ?_
      intro v2 hRx hGa hza
      obtain ⟨gx, egx⟩ : ∃ g, v1.heap.size = g := ⟨_, rfl⟩
      rw [egx] at hRx ⊢
      have hgx : M ≤ gx := by have := hS.size; have := HMR.out; omega
      have hS : Below M wr v2 := below_none hS (by have := hS.size; have := HMR.out; omega) hGa
      refine ⟨hS, ?_⟩
      refine anyH_one 9 (by kernel_rfl) ?_
      refine ⟨?_⟩
      refine wpOp_storev rfl (by kernel_rfl) gdt _ _ rfl gx gdt 52 (gcs K T0 T1 true b 0 n) (by kernel_rfl) (by kernel_rfl) hRx (gcs_one _ _ _ _ _ _ _) (gcs_len _ _ _ _ _ _ _ HK.out H0.out H1.out) gdt_i ?_
      intro wz hBx hGx hzx
      have hS : Below M wr wz := below_new hS (by have := hS.size; have := HMR.out; omega) hGx hgx
      refine ⟨hS, ?_⟩
      refine tkw 10 15 rfl rfl (by kernel_rfl) (.nilIface) idq (fun _ => by kernel_rfl) hS ?_
      refine wpAnyH_done (by kernel_rfl) ?_ _
      simp only [Act.put, List.getElem_toArray, List.getElem_cons_succ, List.getElem_cons_zero, List.setIfInBounds_toArray, List.set_cons_succ, List.set_cons_zero]
      exact key wz gx ⟨hS, hBx, hgx⟩
     next =>
      refine ⟨?_⟩
      refine wpOp_alloc rfl (by kernel_rfl) gdt rfl (.agg (ga zg zg zg false false 0 0)) 52 (fun _ => by kernel_rfl) (by kernel_rfl) ?_
      intro v1 hRx hGa hza
      obtain ⟨gx, egx⟩ : ∃ g, wr.drew.heap.size = g := ⟨_, rfl⟩
      rw [egx] at hRx ⊢
      have hgx : M ≤ gx := by have := hS.size; have := HMR.out; omega
      have hS : Below M wr v1 := below_none hS (by have := hS.size; have := HMR.out; omega) hGa
      refine ⟨hS, ?_⟩
      refine anyH_one 4 (by kernel_rfl) ?_
      refine opH_enter (some 135) rfl (by kernel_rfl) (by kernel_rfl) 31 #[.agg (ga K T0 T1 a b m n), .int .i64 0, .string ⟨#[97, 108, 112, 104, 97]⟩] (fun v wq => v = .tuple #[.agg (ga K T0 T1 true b 0 n), .nilIface] ∧ Below v1.heap.size v1 wq) (by kernel_rfl) ((Enter_yes0 K T0 T1 a b m n ⟨#[97, 108, 112, 104, 97]⟩ v1 HK.out H0.out H1.out HMZ.out (by have := L0.out; omega) (by decide) (by decide) ET0.out).mono fun e wq ⟨q1, q2⟩ => ⟨_, q1, rfl, q2⟩) ?_
      rintro v9 v2 ⟨rfl, hL⟩
      have hRx := hRx.below hL hRx.lt
      have hS := hmr hS hL HMR.out
      refine ⟨hS, ?_⟩
      refine tkw 5 130 rfl rfl (by kernel_rfl) (.tuple #[.agg (ga K T0 T1 true b 0 n), .nilIface]) idq (fun _ => by kernel_rfl) hS ?_
      refine tkw 6 136 rfl rfl (by kernel_rfl) (.agg (ga K T0 T1 true b 0 n)) idq (fun _ => by kernel_rfl) hS ?_
      refine tkw 7 137 rfl rfl (by kernel_rfl) (.nilIface) idq (fun _ => by kernel_rfl) hS ?_
      refine anyH_one 9 (by kernel_rfl) ?_
      refine ⟨?_⟩
      refine wpOp_storev rfl (by kernel_rfl) gdt _ _ rfl gx gdt 52 (gcs K T0 T1 true b 0 n) (by kernel_rfl) (by kernel_rfl) hRx (gcs_one _ _ _ _ _ _ _) (gcs_len _ _ _ _ _ _ _ HK.out H0.out H1.out) gdt_i ?_
      intro wz hBx hGx hzx
      have hS : Below M wr wz := below_new hS (by have := hS.size; have := HMR.out; omega) hGx hgx
      refine ⟨hS, ?_⟩
      refine tkw 10 15 rfl rfl (by kernel_rfl) (.nilIface) idq (fun _ => by kernel_rfl) hS ?_
      refine wpAnyH_done (by kernel_rfl) ?_ _
      simp only [Act.put, List.getElem_toArray, List.getElem_cons_succ, List.getElem_cons_zero, List.setIfInBounds_toArray, List.set_cons_succ, List.set_cons_zero]
      exact key wz gx ⟨hS, hBx, hgx⟩
    rintro wz gx ⟨hS, hBx, hgx⟩
    have hL := HSM.out wz hS
    have hgB : GB wz gx gdt K T0 T1 true b 0 n := hBx
    have hgM := Lib.hid (show M ≤ gx ∧ M = wr.heap.size from ⟨hgx, HMR.out.symm⟩)
    obtain ⟨Gx, eGx⟩ : ∃ g, gx = g := ⟨_, rfl⟩
    rw [eGx] at hgB hgM ⊢
    obtain ⟨w201, ewz⟩ : ∃ x, wz = x := ⟨_, rfl⟩
    rw [ewz] at hL hgB ⊢
    clear ewz eGx hBx hgx
    clear hgM HCc0 HGk
    clear HSM HMR hS eM
    have hM201 : Below N w w201 := below_more hM200 hL hs200
    have hs201 : N ≤ w201.heap.size := Nat.le_trans hs200 (hL).size
    have g_201 := Lib.hid (g_200.out.next hL)
    clear g_200
    have K_201 := Lib.hid (K_200.out.under hL)
    clear K_200
    have c_201 := Lib.hid (c_200.out.next hL)
    clear c_200
    have E_201 := Lib.hid (E_200.out.below hL)
    clear E_200
    clear hM200 hs200
    have x_201 := Lib.hid (hgB)
    clear hL hgB
    go_wp2_with fail
    obtain ⟨M, eM⟩ : ∃ M, w201.heap.size = M := ⟨_, rfl⟩
    have HSM := Lib.hid (show ∀ wq, Below M w201 wq → Below w201.heap.size w201 wq from fun wq h => by rw [eM]; exact h)
    have HMR := Lib.hid eM
    have hS : Below M w201 w201.drew := ⟨rfl, rfl, rfl, Nat.le_refl _, fun _ _ => rfl⟩
    have HCc1 := Lib.hid (show ∀ wq, Below M w201 wq → wq.cell? ⟨Gc, 1, none⟩ = some (.string ⟨#[111, 109, 101, 103, 97, 50]⟩) from fun wq h => VB.cell (VB.next c_201.out (HSM.out wq h)) 1 _ rfl)
    have HXk := Lib.hid (show ∀ wq, Below M w201 wq → GB wq Gx gdt K T0 T1 true b 0 n from fun wq h => x_201.out.next (HSM.out wq h))
    refine wp_region_held (S := fun wq => Below M w201 wq) (by kernel_rfl) ?_
    show wpAnyH _ _ _ _ _ 11 _ _ w201.drew
    refine tkl 0 139 rfl rfl (by kernel_rfl) idq (yields_gd (by kernel_rfl) _ rfl Gx gdt K T0 T1 true b 0 n (by kernel_rfl) (fun wq hq => HXk.out wq hq) HK.out H0.out H1.out) hS ?_
    refine tkw 1 140 rfl rfl (by kernel_rfl) (.slice (some ⟨Gc, 0, none⟩) 2 2) idq (fun _ => by kernel_rfl) hS ?_
    refine tkw 2 141 rfl rfl (by kernel_rfl) (.pointer (some ⟨Gc, 1, none⟩)) idq (fun _ => by kernel_rfl) hS ?_
    refine tkl 3 142 rfl rfl (by kernel_rfl) idq (yields_cell (by kernel_rfl) (.string ⟨#[111, 109, 101, 103, 97, 50]⟩) 9 _ rfl ⟨Gc, 1, none⟩ (by kernel_rfl) (fun w h => load_stry w _ _ h) (fun wq hq => HCc1.out wq hq)) hS ?_
    apply share (fun (wz : World) (gx : Nat) => Below M w201 wz ∧ GB wz gx gdt K T0 T1 true b 0 n ∧ M ≤ gx)
    case main =>
     intro key
     refine anyH_two 4 8 (by kernel_rfl) ?_ ?_
     next =>
      refine opH_enter (some 143) rfl (by kernel_rfl) (by kernel_rfl) 31 #[.agg (ga K T0 T1 true b 0 n), .int .i64 1, .string ⟨#[111, 109, 101, 103, 97, 50]⟩] (fun v wq => v = .tuple #[.agg (ga K T0 T1 true b 0 n), .iface 91 (.int .i64 9)] ∧ Below w201.drew.heap.size w201.drew wq) (by kernel_rfl) ((Enter_locked1 K T0 T1 true b 0 n ⟨#[111, 109, 101, 103, 97, 50]⟩ w201.drew HK.out H0.out H1.out L1.out).mono fun e wq ⟨q1, q2⟩ => ⟨_, q1, rfl, q2⟩) ?_
      rintro v9 v1 ⟨rfl, hL⟩
      have hS := hmr hS hL HMR.out
      refine ⟨hS, ?_⟩
      refine tkw 5 138 rfl rfl (by kernel_rfl) (.tuple #[.agg (ga K T0 T1 true b 0 n), .iface 91 (.int .i64 9)]) idq (fun _ => by kernel_rfl) hS ?_
      refine tkw 6 144 rfl rfl (by kernel_rfl) (.agg (ga K T0 T1 true b 0 n)) idq (fun _ => by kernel_rfl) hS ?_
      refine tkw 7 145 rfl rfl (by kernel_rfl) (.iface 91 (.int .i64 9)) idq (fun _ => by kernel_rfl) hS ?_
      refine anyH_one 8 (by kernel_rfl) ?_
      refine ⟨?_⟩
      refine wpOp_alloc rfl (by kernel_rfl) gdt rfl (.agg (ga zg zg zg false false 0 0)) 52 (fun _ => by kernel_rfl) (by kernel_rfl) ?_
      intro v2 hRx hGa hza
      obtain ⟨gx, egx⟩ : ∃ g, v1.heap.size = g := ⟨_, rfl⟩
      rw [egx] at hRx ⊢
      have hgx : M ≤ gx := by have := hS.size; have := HMR.out; omega
      have hS : Below M w201 v2 := below_none hS (by have := hS.size; have := HMR.out; omega) hGa
      refine ⟨hS, ?_⟩
      refine anyH_one 9 (by kernel_rfl) ?_
      refine ⟨?_⟩
      refine wpOp_storev rfl (by kernel_rfl) gdt _ _ rfl gx gdt 52 (gcs K T0 T1 true b 0 n) (by kernel_rfl) (by kernel_rfl) hRx (gcs_one _ _ _ _ _ _ _) (gcs_len _ _ _ _ _ _ _ HK.out H0.out H1.out) gdt_i ?_
      intro wz hBx hGx hzx
      have hS : Below M w201 wz := below_new hS (by have := hS.size; have := HMR.out; omega) hGx hgx
      refine ⟨hS, ?_⟩
      refine tkw 10 17 rfl rfl (by kernel_rfl) (.iface 91 (.int .i64 9)) idq (fun _ => by kernel_rfl) hS ?_
      refine wpAnyH_done (by kernel_rfl) ?_ _
      simp only [Act.put, List.getElem_toArray, List.getElem_cons_succ, List.getElem_cons_zero, List.setIfInBounds_toArray, List.set_cons_succ, List.set_cons_zero]
      exact key wz gx ⟨hS, hBx, hgx⟩
     next =>
      refine ⟨?_⟩
      refine wpOp_alloc rfl (by kernel_rfl) gdt rfl (.agg (ga zg zg zg false false 0 0)) 52 (fun _ => by kernel_rfl) (by kernel_rfl) ?_
      intro v1 hRx hGa hza
      obtain ⟨gx, egx⟩ : ∃ g, w201.drew.heap.size = g := ⟨_, rfl⟩
      rw [egx] at hRx ⊢
      have hgx : M ≤ gx := by have := hS.size; have := HMR.out; omega
      have hS : Below M w201 v1 := below_none hS (by have := hS.size; have := HMR.out; omega) hGa
      refine ⟨hS, ?_⟩
      refine anyH_one 4 (by kernel_rfl) ?_
      refine opH_enter (some 143) rfl (by kernel_rfl) (by kernel_rfl) 31 #[.agg (ga K T0 T1 true b 0 n), .int .i64 1, .string ⟨#[111, 109, 101, 103, 97, 50]⟩] (fun v wq => v = .tuple #[.agg (ga K T0 T1 true b 0 n), .iface 91 (.int .i64 9)] ∧ Below v1.heap.size v1 wq) (by kernel_rfl) ((Enter_locked1 K T0 T1 true b 0 n ⟨#[111, 109, 101, 103, 97, 50]⟩ v1 HK.out H0.out H1.out L1.out).mono fun e wq ⟨q1, q2⟩ => ⟨_, q1, rfl, q2⟩) ?_
      rintro v9 v2 ⟨rfl, hL⟩
      have hRx := hRx.below hL hRx.lt
      have hS := hmr hS hL HMR.out
      refine ⟨hS, ?_⟩
      refine tkw 5 138 rfl rfl (by kernel_rfl) (.tuple #[.agg (ga K T0 T1 true b 0 n), .iface 91 (.int .i64 9)]) idq (fun _ => by kernel_rfl) hS ?_
      refine tkw 6 144 rfl rfl (by kernel_rfl) (.agg (ga K T0 T1 true b 0 n)) idq (fun _ => by kernel_rfl) hS ?_
      refine tkw 7 145 rfl rfl (by kernel_rfl) (.iface 91 (.int .i64 9)) idq (fun _ => by kernel_rfl) hS ?_
      refine anyH_one 9 (by kernel_rfl) ?_
      refine ⟨?_⟩
      refine wpOp_storev rfl (by kernel_rfl) gdt _ _ rfl gx gdt 52 (gcs K T0 T1 true b 0 n) (by kernel_rfl) (by kernel_rfl) hRx (gcs_one _ _ _ _ _ _ _) (gcs_len _ _ _ _ _ _ _ HK.out H0.out H1.out) gdt_i ?_
      intro wz hBx hGx hzx
      have hS : Below M w201 wz := below_new hS (by have := hS.size; have := HMR.out; omega) hGx hgx
      refine ⟨hS, ?_⟩
      refine tkw 10 17 rfl rfl (by kernel_rfl) (.iface 91 (.int .i64 9)) idq (fun _ => by kernel_rfl) hS ?_
      refine wpAnyH_done (by kernel_rfl) ?_ _
      simp only [Act.put, List.getElem_toArray, List.getElem_cons_succ, List.getElem_cons_zero, List.setIfInBounds_toArray, List.set_cons_succ, List.set_cons_zero]
      exact key wz gx ⟨hS, hBx, hgx⟩
    rintro wz gx ⟨hS, hBx, hgx⟩
    have hL := HSM.out wz hS
    have hgB : GB wz gx gdt K T0 T1 true b 0 n := hBx
    have hgM := Lib.hid (show M ≤ gx ∧ M = w201.heap.size from ⟨hgx, HMR.out.symm⟩)
    obtain ⟨Gy, eGy⟩ : ∃ g, gx = g := ⟨_, rfl⟩
    rw [eGy] at hgB hgM ⊢
    obtain ⟨w202, ewz⟩ : ∃ x, wz = x := ⟨_, rfl⟩
    rw [ewz] at hL hgB ⊢
    clear ewz eGy hBx hgx
    clear hgM HCc1 HXk
    clear HSM HMR hS eM
    have hM202 : Below N w w202 := below_more hM201 hL hs201
    have hs202 : N ≤ w202.heap.size := Nat.le_trans hs201 (hL).size
    have g_202 := Lib.hid (g_201.out.next hL)
    clear g_201
    have K_202 := Lib.hid (K_201.out.under hL)
    clear K_201
    have c_202 := Lib.hid (c_201.out.next hL)
    clear c_201
    have E_202 := Lib.hid (E_201.out.below hL)
    clear E_201
    have x_202 := Lib.hid (x_201.out.next hL)
    clear x_201
    clear hM201 hs201
    have y_202 := Lib.hid (hgB)
    clear hL hgB
    have cb0 := g_202.out.bad0 HK.out H0.out H1.out
    have cb1 := g_202.out.bad1 HK.out H0.out H1.out
    have j0 : ¬ (5 : Int) ≤ m := by have := L0.out; omega
    have j1 : (5 : Int) ≤ n := by have := L1.out; omega
    go_wp2_with fail
    clear cb0 cb1
    obtain ⟨M, eM⟩ : ∃ M, w202.heap.size = M := ⟨_, rfl⟩
    have HSM := Lib.hid (show ∀ wq, Below M w202 wq → Below w202.heap.size w202 wq from fun wq h => by rw [eM]; exact h)
    have HMR := Lib.hid eM
    have hS : Below M w202 w202.drew := ⟨rfl, rfl, rfl, Nat.le_refl _, fun _ _ => rfl⟩
    have HYk := Lib.hid (show ∀ wq, Below M w202 wq → GB wq Gy gdt K T0 T1 true b 0 n from fun wq h => y_202.out.next (HSM.out wq h))
    refine wp_region_held (S := fun wq => Below M w202 wq) (by kernel_rfl) ?_
    show wpAnyH _ _ _ _ _ 22 _ _ w202.drew
    refine tkl 0 156 rfl rfl (by kernel_rfl) idq (yields_gd (by kernel_rfl) _ rfl Gy gdt K T0 T1 true b 0 n (by kernel_rfl) (fun wq hq => HYk.out wq hq) HK.out H0.out H1.out) hS ?_
    refine tkw 3 159 rfl rfl (by kernel_rfl) (.nilIface) idq (fun _ => by kernel_rfl) hS ?_
    refine tkw 4 160 rfl rfl (by kernel_rfl) (.bool true) idq (fun _ => by kernel_rfl) hS ?_
    refine anyH_one 1 (by kernel_rfl) ?_
    refine opH_enter (some 157) rfl (by kernel_rfl) (by kernel_rfl) 32 #[.agg (ga K T0 T1 true b 0 n)] (fun v wq => (∃ T x, v = .iface T x) ∧ Below w202.drew.heap.size w202.drew wq) (by kernel_rfl) ((BothG_no K T0 T1 true b 0 n w202.drew HK.out H0.out H1.out (by have h : b = false := (by cases hb : b with | false => rfl | true => (have := HBN.out hb; have := L1.out; omega)); rw [h]; rfl)).mono fun e wq ⟨v, q1, q2, q3⟩ => ⟨v, q1, q2.form, q3⟩) ?_
    rintro v9 v1 ⟨⟨vT, vX, rfl⟩, hL⟩
    have hS := hmr hS hL HMR.out
    refine ⟨hS, ?_⟩
    refine tkw 2 158 rfl rfl (by kernel_rfl) (.bool false) idq (fun _ => by kernel_rfl) hS ?_
    refine tkw 5 161 rfl rfl (by kernel_rfl) (.bool true) idq (fun _ => by kernel_rfl) hS ?_
    refine tkw 6 162 rfl rfl (by kernel_rfl) (.iface 91 (.int .i64 9)) idq (fun _ => by kernel_rfl) hS ?_
    refine tkw 7 163 rfl rfl (by kernel_rfl) (.bool false) idq (fun _ => by kernel_rfl) hS ?_
    refine tkw 8 164 rfl rfl (by kernel_rfl) (.bool false) idq (fun _ => by kernel_rfl) hS ?_
    refine tkw 9 165 rfl rfl (by kernel_rfl) (.bool true) idq (fun _ => by kernel_rfl) hS ?_
    refine tkw 10 166 rfl rfl (by kernel_rfl) (.bool true) idq (fun _ => by kernel_rfl) hS ?_
    refine tkw 11 167 rfl rfl (by kernel_rfl) (.nilIface) idq (fun _ => by kernel_rfl) hS ?_
    refine tkw 12 168 rfl rfl (by kernel_rfl) (.bool true) idq (fun _ => by kernel_rfl) hS ?_
    refine tkw 13 169 rfl rfl (by kernel_rfl) (.bool true) idq (fun _ => by kernel_rfl) hS ?_
    refine tkw 14 170 rfl rfl (by kernel_rfl) (.iface 91 (.int .i64 9)) idq (fun _ => by kernel_rfl) hS ?_
    refine tkw 15 171 rfl rfl (by kernel_rfl) (.bool false) idq (fun _ => by kernel_rfl) hS ?_
    refine tkw 16 172 rfl rfl (by kernel_rfl) (.bool false) idq (fun _ => by kernel_rfl) hS ?_
    refine tkw 17 173 rfl rfl (by kernel_rfl) (.bool false) idq (fun _ => by kernel_rfl) hS ?_
    refine tkw 18 174 rfl rfl (by kernel_rfl) (.bool true) idq (fun _ => by kernel_rfl) hS ?_
    refine tkw 19 175 rfl rfl (by kernel_rfl) (.bool true) idq (fun _ => by kernel_rfl) hS ?_
    refine tkw 20 176 rfl rfl (by kernel_rfl) (.bool true) idq (fun _ => by kernel_rfl) hS ?_
    refine tkw 21 6 rfl rfl (by kernel_rfl) (.bool true) idq (fun _ => by kernel_rfl) hS ?_
    refine wpAnyH_done (by kernel_rfl) ?_ _
    simp only [Act.put, List.getElem_toArray, List.getElem_cons_succ, List.getElem_cons_zero, List.setIfInBounds_toArray, List.set_cons_succ, List.set_cons_zero]
    have hL := HSM.out v1 hS
    have hMz := below_more hM202 hL hs202
    go_wp2
    go_ret
    exact ⟨rfl, by first | exact hMz | (rw [HN.out]; exact hMz)⟩
   next =>
    skip
    have g_200 := Lib.hid hg9
    have K_200 := Lib.hid hK9
    have c_200 := Lib.hid hc9
    have E_200 := Lib.hid hE9
    have hM200 := hM9
    have hs200 := hs9
    clear hg9 hK9 hc9 hE9 hM9 hs9
    skip
    have L0 := Lib.hid l0
    have L1 := Lib.hid l1
    clear l0 l1
    go_wp2_with fail
    obtain ⟨M, eM⟩ : ∃ M, wr.heap.size = M := ⟨_, rfl⟩
    have HSM := Lib.hid (show ∀ wq, Below M wr wq → Below wr.heap.size wr wq from fun wq h => by rw [eM]; exact h)
    have HMR := Lib.hid eM
    have hS : Below M wr wr.drew := ⟨rfl, rfl, rfl, Nat.le_refl _, fun _ _ => rfl⟩
    have HCc0 := Lib.hid (show ∀ wq, Below M wr wq → wq.cell? ⟨Gc, 0, none⟩ = some (.string ⟨#[97, 108, 112, 104, 97]⟩) from fun wq h => VB.cell (VB.next c_200.out (HSM.out wq h)) 0 _ rfl)
    have HGk := Lib.hid (show ∀ wq, Below M wr wq → GB wq Gg gdt K T0 T1 a b m n from fun wq h => g_200.out.next (HSM.out wq h))
    refine wp_region_held (S := fun wq => Below M wr wq) (by kernel_rfl) ?_
    show wpAnyH _ _ _ _ _ 11 _ _ wr.drew
    refine tkl 0 131 rfl rfl (by kernel_rfl) idq (yields_gd (by kernel_rfl) _ rfl Gg gdt K T0 T1 a b m n (by kernel_rfl) (fun wq hq => HGk.out wq hq) HK.out H0.out H1.out) hS ?_
    refine tkw 1 132 rfl rfl (by kernel_rfl) (.slice (some ⟨Gc, 0, none⟩) 2 2) idq (fun _ => by kernel_rfl) hS ?_
    refine tkw 2 133 rfl rfl (by kernel_rfl) (.pointer (some ⟨Gc, 0, none⟩)) idq (fun _ => by kernel_rfl) hS ?_
    refine tkl 3 134 rfl rfl (by kernel_rfl) idq (yields_cell (by kernel_rfl) (.string ⟨#[97, 108, 112, 104, 97]⟩) 9 _ rfl ⟨Gc, 0, none⟩ (by kernel_rfl) (fun w h => load_stry w _ _ h) (fun wq hq => HCc0.out wq hq)) hS ?_
    apply share (fun (wz : World) (gx : Nat) => Below M wr wz ∧ GB wz gx gdt K T0 T1 true b 0 n ∧ M ≤ gx)
    case main =>
     intro key
     refine anyH_two 4 8 (by kernel_rfl) ?_ ?_
     next =>
      refine opH_enter (some 135) rfl (by kernel_rfl) (by kernel_rfl) 31 #[.agg (ga K T0 T1 a b m n), .int .i64 0, .string ⟨#[97, 108, 112, 104, 97]⟩] (fun v wq => v = .tuple #[.agg (ga K T0 T1 true b 0 n), .nilIface] ∧ Below wr.drew.heap.size wr.drew wq) (by kernel_rfl) ((Enter_yes0 K T0 T1 a b m n ⟨#[97, 108, 112, 104, 97]⟩ wr.drew HK.out H0.out H1.out HMZ.out (by have := L0.out; omega) (by decide) (by decide) ET0.out).mono fun e wq ⟨q1, q2⟩ => ⟨_, q1, rfl, q2⟩) ?_
      rintro v9 v1 ⟨rfl, hL⟩
      have hS := hmr hS hL HMR.out
      refine ⟨hS, ?_⟩
      refine tkw 5 130 rfl rfl (by kernel_rfl) (.tuple #[.agg (ga K T0 T1 true b 0 n), .nilIface]) idq (fun _ => by kernel_rfl) hS ?_
      refine tkw 6 136 rfl rfl (by kernel_rfl) (.agg (ga K T0 T1 true b 0 n)) idq (fun _ => by kernel_rfl) hS ?_
      refine tkw 7 137 rfl rfl (by kernel_rfl) (.nilIface) idq (fun _ => by kernel_rfl) hS ?_
      refine anyH_one 8 (by kernel_rfl) ?_
      refine ⟨?_⟩
      refine wpOp_alloc rfl (by kernel_rfl) gdt rfl (.agg (ga zg zg zg false false 0 0)) 52 (fun _ => by kernel_rfl) (by kernel_rfl) ?_
      intro v2 hRx hGa hza
      obtain ⟨gx, egx⟩ : ∃ g, v1.heap.size = g := ⟨_, rfl⟩
      rw [egx] at hRx ⊢
      have hgx : M ≤ gx := by have := hS.size; have := HMR.out; omega
      have hS : Below M wr v2 := below_none hS (by have := hS.size; have := HMR.out; omega) hGa
      refine ⟨hS, ?_⟩
      refine anyH_one 9 (by kernel_rfl) ?_
      refine ⟨?_⟩
      refine wpOp_storev rfl (by kernel_rfl) gdt _ _ rfl gx gdt 52 (gcs K T0 T1 true b 0 n) (by kernel_rfl) (by kernel_rfl) hRx (gcs_one _ _ _ _ _ _ _) (gcs_len _ _ _ _ _ _ _ HK.out H0.out H1.out) gdt_i ?_
      intro wz hBx hGx hzx
      have hS : Below M wr wz := below_new hS (by have := hS.size; have := HMR.out; omega) hGx hgx
      refine ⟨hS, ?_⟩
      refine tkw 10 15 rfl rfl (by kernel_rfl) (.nilIface) idq (fun _ => by kernel_rfl) hS ?_
      refine wpAnyH_done (by kernel_rfl) ?_ _
      simp only [Act.put, List.getElem_toArray, List.getElem_cons_succ, List.getElem_cons_zero, List.setIfInBounds_toArray, List.set_cons_succ, List.set_cons_zero]
      exact key wz gx ⟨hS, hBx, hgx⟩
     next =>
      refine ⟨?_⟩
      refine wpOp_alloc rfl (by kernel_rfl) gdt rfl (.agg (ga zg zg zg false false 0 0)) 52 (fun _ => by kernel_rfl) (by kernel_rfl) ?_
      intro v1 hRx hGa hza
      obtain ⟨gx, egx⟩ : ∃ g, wr.drew.heap.size = g := ⟨_, rfl⟩
      rw [egx] at hRx ⊢
      have hgx : M ≤ gx := by have := hS.size; have := HMR.out; omega
      have hS : Below M wr v1 := below_none hS (by have := hS.size; have := HMR.out; omega) hGa
      refine ⟨hS, ?_⟩
      refine anyH_one 4 (by kernel_rfl) ?_
      refine opH_enter (some 135) rfl (by kernel_rfl) (by kernel_rfl) 31 #[.agg (ga K T0 T1 a b m n), .int .i64 0, .string ⟨#[97, 108, 112, 104, 97]⟩] (fun v wq => v = .tuple #[.agg (ga K T0 T1 true b 0 n), .nilIface] ∧ Below v1.heap.size v1 wq) (by kernel_rfl) ((Enter_yes0 K T0 T1 a b m n ⟨#[97, 108, 112, 104, 97]⟩ v1 HK.out H0.out H1.out HMZ.out (by have := L0.out; omega) (by decide) (by decide) ET0.out).mono fun e wq ⟨q1, q2⟩ => ⟨_, q1, rfl, q2⟩) ?_
      rintro v9 v2 ⟨rfl, hL⟩
      have hRx := hRx.below hL hRx.lt
      have hS := hmr hS hL HMR.out
      refine ⟨hS, ?_⟩
      refine tkw 5 130 rfl rfl (by kernel_rfl) (.tuple #[.agg (ga K T0 T1 true b 0 n), .nilIface]) idq (fun _ => by kernel_rfl) hS ?_
      refine tkw 6 136 rfl rfl (by kernel_rfl) (.agg (ga K T0 T1 true b 0 n)) idq (fun _ => by kernel_rfl) hS ?_
      refine tkw 7 137 rfl rfl (by kernel_rfl) (.nilIface) idq (fun _ => by kernel_rfl) hS ?_
      refine anyH_one 9 (by kernel_rfl) ?_
      refine ⟨?_⟩
      refine wpOp_storev rfl (by kernel_rfl) gdt _ _ rfl gx gdt 52 (gcs K T0 T1 true b 0 n) (by kernel_rfl) (by kernel_rfl) hRx (gcs_one _ _ _ _ _ _ _) (gcs_len _ _ _ _ _ _ _ HK.out H0.out H1.out) gdt_i ?_
      intro wz hBx hGx hzx
      have hS : Below M wr wz := below_new hS (by have := hS.size; have := HMR.out; omega) hGx hgx
      refine ⟨hS, ?_⟩
      refine tkw 10 15 rfl rfl (by kernel_rfl) (.nilIface) idq (fun _ => by kernel_rfl) hS ?_
      refine wpAnyH_done (by kernel_rfl) ?_ _
      simp only [Act.put, List.getElem_toArray, List.getElem_cons_succ, List.getElem_cons_zero, List.setIfInBounds_toArray, List.set_cons_succ, List.set_cons_zero]
      exact key wz gx ⟨hS, hBx, hgx⟩
    rintro wz gx ⟨hS, hBx, hgx⟩
    have hL := HSM.out wz hS
    have hgB : GB wz gx gdt K T0 T1 true b 0 n := hBx
    have hgM := Lib.hid (show M ≤ gx ∧ M = wr.heap.size from ⟨hgx, HMR.out.symm⟩)
    obtain ⟨Gx, eGx⟩ : ∃ g, gx = g := ⟨_, rfl⟩
    rw [eGx] at hgB hgM ⊢
    obtain ⟨w201, ewz⟩ : ∃ x, wz = x := ⟨_, rfl⟩
    rw [ewz] at hL hgB ⊢
    clear ewz eGx hBx hgx
    clear hgM HCc0 HGk
    clear HSM HMR hS eM
    have hM201 : Below N w w201 := below_more hM200 hL hs200
    have hs201 : N ≤ w201.heap.size := Nat.le_trans hs200 (hL).size
    have g_201 := Lib.hid (g_200.out.next hL)
    clear g_200
    have K_201 := Lib.hid (K_200.out.under hL)
    clear K_200
    have c_201 := Lib.hid (c_200.out.next hL)
    clear c_200
    have E_201 := Lib.hid (E_200.out.below hL)
    clear E_200
    clear hM200 hs200
    have x_201 := Lib.hid (hgB)
    clear hL hgB
    go_wp2_with fail
    obtain ⟨M, eM⟩ : ∃ M, w201.heap.size = M := ⟨_, rfl⟩
    have HSM := Lib.hid (show ∀ wq, Below M w201 wq → Below w201.heap.size w201 wq from fun wq h => by rw [eM]; exact h)
    have HMR := Lib.hid eM
    have hS : Below M w201 w201.drew := ⟨rfl, rfl, rfl, Nat.le_refl _, fun _ _ => rfl⟩
    have HCc1 := Lib.hid (show ∀ wq, Below M w201 wq → wq.cell? ⟨Gc, 1, none⟩ = some (.string ⟨#[111, 109, 101, 103, 97, 50]⟩) from fun wq h => VB.cell (VB.next c_201.out (HSM.out wq h)) 1 _ rfl)
    have HXk := Lib.hid (show ∀ wq, Below M w201 wq → GB wq Gx gdt K T0 T1 true b 0 n from fun wq h => x_201.out.next (HSM.out wq h))
    refine wp_region_held (S := fun wq => Below M w201 wq) (by kernel_rfl) ?_
    show wpAnyH _ _ _ _ _ 11 _ _ w201.drew
    refine tkl 0 139 rfl rfl (by kernel_rfl) idq (yields_gd (by kernel_rfl) _ rfl Gx gdt K T0 T1 true b 0 n (by kernel_rfl) (fun wq hq => HXk.out wq hq) HK.out H0.out H1.out) hS ?_
    refine tkw 1 140 rfl rfl (by kernel_rfl) (.slice (some ⟨Gc, 0, none⟩) 2 2) idq (fun _ => by kernel_rfl) hS ?_
    refine tkw 2 141 rfl rfl (by kernel_rfl) (.pointer (some ⟨Gc, 1, none⟩)) idq (fun _ => by kernel_rfl) hS ?_
    refine tkl 3 142 rfl rfl (by kernel_rfl) idq (yields_cell (by kernel_rfl) (.string ⟨#[111, 109, 101, 103, 97, 50]⟩) 9 _ rfl ⟨Gc, 1, none⟩ (by kernel_rfl) (fun w h => load_stry w _ _ h) (fun wq hq => HCc1.out wq hq)) hS ?_
    apply share (fun (wz : World) (gx : Nat) => Below M w201 wz ∧ GB wz gx gdt K T0 T1 true true 0 0 ∧ M ≤ gx)
    case main =>
     intro key
     refine anyH_two 4 8 (by kernel_rfl) ?_ ?_
     next =>
      refine opH_enter (some 143) rfl (by kernel_rfl) (by kernel_rfl) 31 #[.agg (ga K T0 T1 true b 0 n), .int .i64 1, .string ⟨#[111, 109, 101, 103, 97, 50]⟩] (fun v wq => v = .tuple #[.agg (ga K T0 T1 true true 0 0), .nilIface] ∧ Below w201.drew.heap.size w201.drew wq) (by kernel_rfl) ((Enter_yes1 K T0 T1 true b 0 n ⟨#[111, 109, 101, 103, 97, 50]⟩ w201.drew HK.out H0.out H1.out HNZ.out (by have := L1.out; omega) (by decide) (by decide) ET1.out).mono fun e wq ⟨q1, q2⟩ => ⟨_, q1, rfl, q2⟩) ?_
      rintro v9 v1 ⟨rfl, hL⟩
      have hS := hmr hS hL HMR.out
      refine ⟨hS, ?_⟩
      refine tkw 5 138 rfl rfl (by kernel_rfl) (.tuple #[.agg (ga K T0 T1 true true 0 0), .nilIface]) idq (fun _ => by kernel_rfl) hS ?_
      refine tkw 6 144 rfl rfl (by kernel_rfl) (.agg (ga K T0 T1 true true 0 0)) idq (fun _ => by kernel_rfl) hS ?_
      refine tkw 7 145 rfl rfl (by kernel_rfl) (.nilIface) idq (fun _ => by kernel_rfl) hS ?_
      refine anyH_one 8 (by kernel_rfl) ?_
      refine ⟨?_⟩
      refine wpOp_alloc rfl (by kernel_rfl) gdt rfl (.agg (ga zg zg zg false false 0 0)) 52 (fun _ => by kernel_rfl) (by kernel_rfl) ?_
      intro v2 hRx hGa hza
      obtain ⟨gx, egx⟩ : ∃ g, v1.heap.size = g := ⟨_, rfl⟩
      rw [egx] at hRx ⊢
      have hgx : M ≤ gx := by have := hS.size; have := HMR.out; omega
      have hS : Below M w201 v2 := below_none hS (by have := hS.size; have := HMR.out; omega) hGa
      refine ⟨hS, ?_⟩
      refine anyH_one 9 (by kernel_rfl) ?_
      refine ⟨?_⟩
      refine wpOp_storev rfl (by kernel_rfl) gdt _ _ rfl gx gdt 52 (gcs K T0 T1 true true 0 0) (by kernel_rfl) (by kernel_rfl) hRx (gcs_one _ _ _ _ _ _ _) (gcs_len _ _ _ _ _ _ _ HK.out H0.out H1.out) gdt_i ?_
      intro wz hBx hGx hzx
      have hS : Below M w201 wz := below_new hS (by have := hS.size; have := HMR.out; omega) hGx hgx
      refine ⟨hS, ?_⟩
      refine tkw 10 17 rfl rfl (by kernel_rfl) (.nilIface) idq (fun _ => by kernel_rfl) hS ?_
      refine wpAnyH_done (by kernel_rfl) ?_ _
      simp only [Act.put, List.getElem_toArray, List.getElem_cons_succ, List.getElem_cons_zero, List.setIfInBounds_toArray, List.set_cons_succ, List.set_cons_zero]
      exact key wz gx ⟨hS, hBx, hgx⟩
     next =>
      refine ⟨?_⟩
      refine wpOp_alloc rfl (by kernel_rfl) gdt rfl (.agg (ga zg zg zg false false 0 0)) 52 (fun _ => by kernel_rfl) (by kernel_rfl) ?_
      intro v1 hRx hGa hza
      obtain ⟨gx, egx⟩ : ∃ g, w201.drew.heap.size = g := ⟨_, rfl⟩
      rw [egx] at hRx ⊢
      have hgx : M ≤ gx := by have := hS.size; have := HMR.out; omega
      have hS : Below M w201 v1 := below_none hS (by have := hS.size; have := HMR.out; omega) hGa
      refine ⟨hS, ?_⟩
      refine anyH_one 4 (by kernel_rfl) ?_
      refine opH_enter (some 143) rfl (by kernel_rfl) (by kernel_rfl) 31 #[.agg (ga K T0 T1 true b 0 n), .int .i64 1, .string ⟨#[111, 109, 101, 103, 97, 50]⟩] (fun v wq => v = .tuple #[.agg (ga K T0 T1 true true 0 0), .nilIface] ∧ Below v1.heap.size v1 wq) (by kernel_rfl) ((Enter_yes1 K T0 T1 true b 0 n ⟨#[111, 109, 101, 103, 97, 50]⟩ v1 HK.out H0.out H1.out HNZ.out (by have := L1.out; omega) (by decide) (by decide) ET1.out).mono fun e wq ⟨q1, q2⟩ => ⟨_, q1, rfl, q2⟩) ?_
      rintro v9 v2 ⟨rfl, hL⟩
      have hRx := hRx.below hL hRx.lt
      have hS := hmr hS hL HMR.out
      refine ⟨hS, ?_⟩
      refine tkw 5 138 rfl rfl (by kernel_rfl) (.tuple #[.agg (ga K T0 T1 true true 0 0), .nilIface]) idq (fun _ => by kernel_rfl) hS ?_
      refine tkw 6 144 rfl rfl (by kernel_rfl) (.agg (ga K T0 T1 true true 0 0)) idq (fun _ => by kernel_rfl) hS ?_
      refine tkw 7 145 rfl rfl (by kernel_rfl) (.nilIface) idq (fun _ => by kernel_rfl) hS ?_
      refine anyH_one 9 (by kernel_rfl) ?_
      refine ⟨?_⟩
      refine wpOp_storev rfl (by kernel_rfl) gdt _ _ rfl gx gdt 52 (gcs K T0 T1 true true 0 0) (by kernel_rfl) (by kernel_rfl) hRx (gcs_one _ _ _ _ _ _ _) (gcs_len _ _ _ _ _ _ _ HK.out H0.out H1.out) gdt_i ?_
      intro wz hBx hGx hzx
      have hS : Below M w201 wz := below_new hS (by have := hS.size; have := HMR.out; omega) hGx hgx
      refine ⟨hS, ?_⟩
      refine tkw 10 17 rfl rfl (by kernel_rfl) (.nilIface) idq (fun _ => by kernel_rfl) hS ?_
      refine wpAnyH_done (by kernel_rfl) ?_ _
      simp only [Act.put, List.getElem_toArray, List.getElem_cons_succ, List.getElem_cons_zero, List.setIfInBounds_toArray, List.set_cons_succ, List.set_cons_zero]
      exact key wz gx ⟨hS, hBx, hgx⟩
    rintro wz gx ⟨hS, hBx, hgx⟩
    have hL := HSM.out wz hS
    have hgB : GB wz gx gdt K T0 T1 true true 0 0 := hBx
    have hgM := Lib.hid (show M ≤ gx ∧ M = w201.heap.size from ⟨hgx, HMR.out.symm⟩)
    obtain ⟨Gy, eGy⟩ : ∃ g, gx = g := ⟨_, rfl⟩
    rw [eGy] at hgB hgM ⊢
    obtain ⟨w202, ewz⟩ : ∃ x, wz = x := ⟨_, rfl⟩
    rw [ewz] at hL hgB ⊢
    clear ewz eGy hBx hgx
    clear hgM HCc1 HXk
    clear HSM HMR hS eM
    have hM202 : Below N w w202 := below_more hM201 hL hs201
    have hs202 : N ≤ w202.heap.size := Nat.le_trans hs201 (hL).size
    have g_202 := Lib.hid (g_201.out.next hL)
    clear g_201
    have K_202 := Lib.hid (K_201.out.under hL)
    clear K_201
    have c_202 := Lib.hid (c_201.out.next hL)
    clear c_201
    have E_202 := Lib.hid (E_201.out.below hL)
    clear E_201
    have x_202 := Lib.hid (x_201.out.next hL)
    clear x_201
    clear hM201 hs201
    have y_202 := Lib.hid (hgB)
    clear hL hgB
    have cb0 := g_202.out.bad0 HK.out H0.out H1.out
    have cb1 := g_202.out.bad1 HK.out H0.out H1.out
    have j0 : ¬ (5 : Int) ≤ m := by have := L0.out; omega
    have j1 : ¬ (5 : Int) ≤ n := by have := L1.out; omega
    go_wp2_with fail
    clear cb0 cb1
    obtain ⟨M, eM⟩ : ∃ M, w202.heap.size = M := ⟨_, rfl⟩
    have HSM := Lib.hid (show ∀ wq, Below M w202 wq → Below w202.heap.size w202 wq from fun wq h => by rw [eM]; exact h)
    have HMR := Lib.hid eM
    have hS : Below M w202 w202.drew := ⟨rfl, rfl, rfl, Nat.le_refl _, fun _ _ => rfl⟩
    have HYk := Lib.hid (show ∀ wq, Below M w202 wq → GB wq Gy gdt K T0 T1 true true 0 0 from fun wq h => y_202.out.next (HSM.out wq h))
    refine wp_region_held (S := fun wq => Below M w202 wq) (by kernel_rfl) ?_
    show wpAnyH _ _ _ _ _ 22 _ _ w202.drew
    refine tkl 0 156 rfl rfl (by kernel_rfl) idq (yields_gd (by kernel_rfl) _ rfl Gy gdt K T0 T1 true true 0 0 (by kernel_rfl) (fun wq hq => HYk.out wq hq) HK.out H0.out H1.out) hS ?_
    refine tkw 3 159 rfl rfl (by kernel_rfl) (.nilIface) idq (fun _ => by kernel_rfl) hS ?_
    refine tkw 4 160 rfl rfl (by kernel_rfl) (.bool true) idq (fun _ => by kernel_rfl) hS ?_
    refine anyH_one 1 (by kernel_rfl) ?_
    refine opH_enter (some 157) rfl (by kernel_rfl) (by kernel_rfl) 32 #[.agg (ga K T0 T1 true true 0 0)] (fun v wq => v = .nilIface ∧ Below w202.drew.heap.size w202.drew wq) (by kernel_rfl) ((Both_tt K T0 T1 0 0 w202.drew HK.out H0.out H1.out).mono fun e wq ⟨q1, q2⟩ => ⟨_, q1, rfl, q2⟩) ?_
    rintro v9 v1 ⟨rfl, hL⟩
    have hS := hmr hS hL HMR.out
    refine ⟨hS, ?_⟩
    refine tkw 2 158 rfl rfl (by kernel_rfl) (.bool true) idq (fun _ => by kernel_rfl) hS ?_
    refine tkw 5 161 rfl rfl (by kernel_rfl) (.bool true) idq (fun _ => by kernel_rfl) hS ?_
    refine tkw 6 162 rfl rfl (by kernel_rfl) (.nilIface) idq (fun _ => by kernel_rfl) hS ?_
    refine tkw 7 163 rfl rfl (by kernel_rfl) (.bool true) idq (fun _ => by kernel_rfl) hS ?_
    refine tkw 8 164 rfl rfl (by kernel_rfl) (.bool true) idq (fun _ => by kernel_rfl) hS ?_
    refine tkw 9 165 rfl rfl (by kernel_rfl) (.bool true) idq (fun _ => by kernel_rfl) hS ?_
    refine tkw 10 166 rfl rfl (by kernel_rfl) (.bool true) idq (fun _ => by kernel_rfl) hS ?_
    refine tkw 11 167 rfl rfl (by kernel_rfl) (.nilIface) idq (fun _ => by kernel_rfl) hS ?_
    refine tkw 12 168 rfl rfl (by kernel_rfl) (.bool true) idq (fun _ => by kernel_rfl) hS ?_
    refine tkw 13 169 rfl rfl (by kernel_rfl) (.bool true) idq (fun _ => by kernel_rfl) hS ?_
    refine tkw 14 170 rfl rfl (by kernel_rfl) (.nilIface) idq (fun _ => by kernel_rfl) hS ?_
    refine tkw 15 171 rfl rfl (by kernel_rfl) (.bool true) idq (fun _ => by kernel_rfl) hS ?_
    refine tkw 16 172 rfl rfl (by kernel_rfl) (.bool true) idq (fun _ => by kernel_rfl) hS ?_
    refine tkw 17 173 rfl rfl (by kernel_rfl) (.bool true) idq (fun _ => by kernel_rfl) hS ?_
    refine tkn 18 174 rfl rfl (by kernel_rfl) idq hS ?_
    refine tkw 19 175 rfl rfl (by kernel_rfl) (.bool true) idq (fun _ => by kernel_rfl) hS ?_
    refine tkw 20 176 rfl rfl (by kernel_rfl) (.bool true) idq (fun _ => by kernel_rfl) hS ?_
    refine tkw 21 6 rfl rfl (by kernel_rfl) (.bool true) idq (fun _ => by kernel_rfl) hS ?_
    refine wpAnyH_done (by kernel_rfl) ?_ _
    simp only [Act.put, List.getElem_toArray, List.getElem_cons_succ, List.getElem_cons_zero, List.setIfInBounds_toArray, List.set_cons_succ, List.set_cons_zero]
    have hL := HSM.out v1 hS
    have hMz := below_more hM202 hL hs202
    go_wp2
    go_ret
    exact ⟨rfl, by first | exact hMz | (rw [HN.out]; exact hMz)⟩
end Go.Proofs.YtbbfjlnkhenbiaaGreatDoor
