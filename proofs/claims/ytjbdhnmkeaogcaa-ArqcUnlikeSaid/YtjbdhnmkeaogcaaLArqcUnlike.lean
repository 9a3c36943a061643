/- ArqcUnlike: unlike codes of an answer have unlike answers. -/
import Derived.Test.YtjbdhnmkeaogcaaArqU
set_option linter.unusedVariables false
set_option linter.unusedSimpArgs false
namespace Go.Proofs.Ytjbdhnmkeaogcaa
open Go.RowKit Lk
set_option maxHeartbeats 6400000 in
set_option maxRecDepth 100000 in
theorem ArqcUnlike_any (k a b x y : List UInt8) (w : World) (hk : k.length = 16) (ha : a.length = 8) (hb : b.length = 8) (hx : x.length = 2) (hy : y.length = 2) :
    Calls Try.prog 8 #[.agg (Bs k), .agg (Bs a), .agg (Bs b), .agg (Bs x), .agg (Bs y)] w fun e w' => e = .returned (.bool true) ∧ Below w.heap.size w w' := by
  obtain ⟨N, hN⟩ : ∃ N, w.heap.size = N := ⟨_, rfl⟩
  have HN := Lib.hid hN
  have HK := Lib.hid hk
  have HA := Lib.hid ha
  have HB := Lib.hid hb
  have HX := Lib.hid hx
  have HY := Lib.hid hy
  have hq8 := fun w => run_eql_bs (P := Try.prog) w (t := 23) (e := 5) a b (by kernel_rfl) (by kernel_rfl) (by kernel_rfl) (by kernel_rfl) ha hb
  have hq2 := fun w => run_eql_bs (P := Try.prog) w (t := 52) (e := 5) x y (by kernel_rfl) (by kernel_rfl) (by kernel_rfl) (by kernel_rfl) hx hy
  have LX := Lib.hid (pone_ans k a x y ha hx hy)
  have LA := Lib.hid (pone_code k a b x ha hb)
  obtain ⟨p, ep⟩ : ∃ p, (x == y) = p := ⟨_, rfl⟩
  obtain ⟨q, eq⟩ : ∃ q, (a == b) = q := ⟨_, rfl⟩
  rw [ep] at LX
  rw [eq] at LA
  simp only [ep] at hq2
  simp only [eq] at hq8
  have hpp : (p == p) = true := beq_self_eq_true _
  have hqq : (q == q) = true := beq_self_eq_true _
  clear hk ha hb hx hy ep eq
  go_enter Try.func8, Try.ntmps8
  have hM0 : Below N w w := Below.refl _ _
  have hs0 : N ≤ w.heap.size := by omega
  go_wp2_with (first
    | ((with_reducible show wpList _ _ _ _ _ w); refine box_blk (w := w) rfl 40 _ rfl k rfl ?_; intro u0 hBk hG0 hz0; rw [hN] at hBk hz0 ⊢)
    | ((with_reducible show wpList _ _ _ _ _ u0); refine box_blk (w := u0) rfl 23 _ rfl a rfl ?_; intro u1 hBa hG1 hz1; rw [hz0] at hBa hz1 ⊢)
    | ((with_reducible show wpList _ _ _ _ _ u1); refine box_blk (w := u1) rfl 23 _ rfl b rfl ?_; intro u2 hBb hG2 hz2; rw [hz1] at hBb hz2 ⊢)
    | ((with_reducible show wpList _ _ _ _ _ u2); refine box_blk (w := u2) rfl 52 _ rfl x rfl ?_; intro u3 hBx hG3 hz3; rw [hz2] at hBx hz3 ⊢)
    | ((with_reducible show wpList _ _ _ _ _ u3); refine box_blk (w := u3) rfl 52 _ rfl y rfl ?_; intro u4 hBy hG4 hz4; rw [hz3] at hBy hz4 ⊢))
  have hL : Below w.heap.size w u4 := below_none (below_none (below_none (below_none (below_none (Below.refl _ _) (Nat.le_refl _) hG0) (by omega) hG1) (by omega) hG2) (by omega) hG3) (by omega) hG4
  have zk := ((((hBk.old hG1 (by simp)).old hG2 (by simp)).old hG3 (by simp)).old hG4 (by simp))
  have za := (((hBa.old hG2 (by simp)).old hG3 (by simp)).old hG4 (by simp))
  have zb := ((hBb.old hG3 (by simp)).old hG4 (by simp))
  have zx := (hBx.old hG4 (by simp))
  have zy := hBy
  have hM1 : Below N w u4 := below_more hM0 hL hs0
  have hs1 : N ≤ u4.heap.size := Nat.le_trans hs0 (hL).size
  clear hM0 hs0
  have Bk_1 := Lib.hid (zk)
  have Ba_1 := Lib.hid (za)
  have Bb_1 := Lib.hid (zb)
  have Bx_1 := Lib.hid (zx)
  have By_1 := Lib.hid (zy)
  have MB_1 := Lib.hid (Below.refl u4.heap.size u4)
  have HU := Lib.hid (show N + 5 ≤ u4.heap.size by omega)
  clear hL zk za zb zx zy hBk hBa hBb hBx hBy hG0 hG1 hG2 hG3 hG4
  go_wp2_with fail
  have cx0 := Bx_1.out.cell 0 (by rw [HX.out]; decide)
  have cx1 := Bx_1.out.cell 1 (by rw [HX.out]; decide)
  have hsz : N + 5 ≤ u4.heap.size := Nat.le_trans HU.out MB_1.out.size
  go_region_held3 (fun w2 => w2.cell? ⟨N + 1 + 1 + 1, 0, none⟩ = some (.int .u8 (bv (g8 x 0))) ∧ w2.cell? ⟨N + 1 + 1 + 1, 1, none⟩ = some (.int .u8 (bv (g8 x 1)))) (first | go_keep | exact ⟨cell_below (w := u4.drewN 1) cx0 hLx (by show N + 1 + 1 + 1 < u4.heap.size; omega), cell_below (w := u4.drewN 1) cx1 hLx (by show N + 1 + 1 + 1 < u4.heap.size; omega)⟩) ((go_at_call 26; refine (One_arr #[.int .u8 (bv (g8 x 0)), .int .u8 (bv (g8 x 1))] _ _ k a x (Bs_two x HX.out) _ ((Bk_1.out.slB HK.out (by decide)).drewN 1) HK.out ((Ba_1.out.slB HA.out (by decide)).drewN 1) HA.out HX.out).mono ?_; rintro e w2 ⟨v, rfl, hO, hLx⟩))
  have hL : Below u4.heap.size u4 w2 := below_more (Drawn.below0 ⟨1, rfl⟩) hLx (Nat.le_refl _)
  have hxl : (pone k a x).length = 8 := ptriple_len _ _ _
  have hsl := hO.new.slB (by rw [hxl]; decide)
  obtain ⟨gP, TP, _, eP, _, _⟩ := hO
  rw [hxl] at eP
  subst eP
  have hM2 : Below N w w2 := below_more hM1 hL hs1
  have hs2 : N ≤ w2.heap.size := Nat.le_trans hs1 (hL).size
  have Bk_2 := Lib.hid (Bk_1.out.under hL)
  clear Bk_1
  have Ba_2 := Lib.hid (Ba_1.out.under hL)
  clear Ba_1
  have Bb_2 := Lib.hid (Bb_1.out.under hL)
  clear Bb_1
  have Bx_2 := Lib.hid (Bx_1.out.under hL)
  clear Bx_1
  have By_2 := Lib.hid (By_1.out.under hL)
  clear By_1
  have MB_2 := Lib.hid (below_more MB_1.out hL MB_1.out.size)
  clear MB_1
  clear hM1 hs1
  have P_2 := Lib.hid (hsl)
  clear hL hsl hLx hxl cx0 cx1 hsz
  go_wp2_with fail
  have cx0 := By_2.out.cell 0 (by rw [HY.out]; decide)
  have cx1 := By_2.out.cell 1 (by rw [HY.out]; decide)
  have hsz : N + 5 ≤ w2.heap.size := Nat.le_trans HU.out MB_2.out.size
  go_region_held3 (fun w2 => w2.cell? ⟨N + 1 + 1 + 1 + 1, 0, none⟩ = some (.int .u8 (bv (g8 y 0))) ∧ w2.cell? ⟨N + 1 + 1 + 1 + 1, 1, none⟩ = some (.int .u8 (bv (g8 y 1)))) (first | go_keep | exact ⟨cell_below (w := w2.drewN 1) cx0 hLx (by show N + 1 + 1 + 1 + 1 < w2.heap.size; omega), cell_below (w := w2.drewN 1) cx1 hLx (by show N + 1 + 1 + 1 + 1 < w2.heap.size; omega)⟩) ((go_at_call 26; refine (One_arr #[.int .u8 (bv (g8 y 0)), .int .u8 (bv (g8 y 1))] _ _ k a y (Bs_two y HY.out) _ ((Bk_2.out.slB HK.out (by decide)).drewN 1) HK.out ((Ba_2.out.slB HA.out (by decide)).drewN 1) HA.out HY.out).mono ?_; rintro e w3 ⟨v, rfl, hO, hLx⟩))
  have hL : Below w2.heap.size w2 w3 := below_more (Drawn.below0 ⟨1, rfl⟩) hLx (Nat.le_refl _)
  have hxl : (pone k a y).length = 8 := ptriple_len _ _ _
  have hsl := hO.new.slB (by rw [hxl]; decide)
  obtain ⟨gQ, TQ, _, eQ, _, _⟩ := hO
  rw [hxl] at eQ
  subst eQ
  have hM3 : Below N w w3 := below_more hM2 hL hs2
  have hs3 : N ≤ w3.heap.size := Nat.le_trans hs2 (hL).size
  have Bk_3 := Lib.hid (Bk_2.out.under hL)
  clear Bk_2
  have Ba_3 := Lib.hid (Ba_2.out.under hL)
  clear Ba_2
  have Bb_3 := Lib.hid (Bb_2.out.under hL)
  clear Bb_2
  have Bx_3 := Lib.hid (Bx_2.out.under hL)
  clear Bx_2
  have By_3 := Lib.hid (By_2.out.under hL)
  clear By_2
  have MB_3 := Lib.hid (below_more MB_2.out hL MB_2.out.size)
  clear MB_2
  have P_3 := Lib.hid (P_2.out.below hL)
  clear P_2
  clear hM2 hs2
  have Q_3 := Lib.hid (hsl)
  clear hL hsl hLx hxl cx0 cx1 hsz
  go_wp2_with fail
  have cx0 := Bx_3.out.cell 0 (by rw [HX.out]; decide)
  have cx1 := Bx_3.out.cell 1 (by rw [HX.out]; decide)
  have hsz : N + 5 ≤ w3.heap.size := Nat.le_trans HU.out MB_3.out.size
  go_region_held3 (fun w2 => w2.cell? ⟨N + 1 + 1 + 1, 0, none⟩ = some (.int .u8 (bv (g8 x 0))) ∧ w2.cell? ⟨N + 1 + 1 + 1, 1, none⟩ = some (.int .u8 (bv (g8 x 1)))) (first | go_keep | exact ⟨cell_below (w := w3.drewN 1) cx0 hLx (by show N + 1 + 1 + 1 < w3.heap.size; omega), cell_below (w := w3.drewN 1) cx1 hLx (by show N + 1 + 1 + 1 < w3.heap.size; omega)⟩) ((go_at_call 26; refine (One_arr #[.int .u8 (bv (g8 x 0)), .int .u8 (bv (g8 x 1))] _ _ k b x (Bs_two x HX.out) _ ((Bk_3.out.slB HK.out (by decide)).drewN 1) HK.out ((Bb_3.out.slB HB.out (by decide)).drewN 1) HB.out HX.out).mono ?_; rintro e w4 ⟨v, rfl, hO, hLx⟩))
  have hL : Below w3.heap.size w3 w4 := below_more (Drawn.below0 ⟨1, rfl⟩) hLx (Nat.le_refl _)
  have hxl : (pone k b x).length = 8 := ptriple_len _ _ _
  have hsl := hO.new.slB (by rw [hxl]; decide)
  obtain ⟨gS, TS, _, eS, _, _⟩ := hO
  rw [hxl] at eS
  subst eS
  have hM4 : Below N w w4 := below_more hM3 hL hs3
  have hs4 : N ≤ w4.heap.size := Nat.le_trans hs3 (hL).size
  have Bk_4 := Lib.hid (Bk_3.out.under hL)
  clear Bk_3
  have Ba_4 := Lib.hid (Ba_3.out.under hL)
  clear Ba_3
  have Bb_4 := Lib.hid (Bb_3.out.under hL)
  clear Bb_3
  have Bx_4 := Lib.hid (Bx_3.out.under hL)
  clear Bx_3
  have By_4 := Lib.hid (By_3.out.under hL)
  clear By_3
  have MB_4 := Lib.hid (below_more MB_3.out hL MB_3.out.size)
  clear MB_3
  have P_4 := Lib.hid (P_3.out.below hL)
  clear P_3
  have Q_4 := Lib.hid (Q_3.out.below hL)
  clear Q_3
  clear hM3 hs3
  have S_4 := Lib.hid (hsl)
  clear hL hsl hLx hxl cx0 cx1 hsz
  go_wp2_with fail
  obtain ⟨M, eM⟩ : ∃ M, w4.heap.size = M := ⟨_, rfl⟩
  have hsM : ∀ w9, Below M w4 w9 → M ≤ w9.heap.size := fun w9 h => by rw [← eM]; exact h.size
  have hUP : ∀ w9, Below M w4 w9 → Below w4.heap.size w4 w9 := fun w9 h => by rw [eM]; exact h
  have HUP := Lib.hid hUP
  have HSM := Lib.hid hsM
  clear hsM hUP
  refine wp_region_cls (fun w9 => ∃ x : BSub M w4, w9 = x.is) (by kernel_rfl) (by kernel_rfl) (bcls_of (by rw [← eM]; exact below_drew _)) ?_
  refine quiet_enter (by kernel_rfl) 27 #[] (.bool true) (fun _ => by kernel_rfl) (fun w9 h9x => by have h9 := of_bcls h9x; exact (awake19 w9).mono fun e w10 ⟨he, hl⟩ => ⟨he, bcls_of (below_more h9 hl (HSM.out w9 h9))⟩) ?_
  simp only [Act.put, List.setIfInBounds_toArray, List.set_cons_succ, List.set_cons_zero]
  repeat (go_big_quiet_step (fail))
  refine quiet_enter (by kernel_rfl) 14 #[.slice (some ⟨gP, 0, none⟩) 8 8, .slice (some ⟨gQ, 0, none⟩) 8 8] (.bool p) (fun _ => by kernel_rfl) (fun w9 h9x => by have h9 := of_bcls h9x; exact (Same_any _ _ (pone k a x) (pone k a y) w9 (P_4.out.below (HUP.out w9 h9)) (Q_4.out.below (HUP.out w9 h9)) (by rw [show (pone k a x).length = 8 from ptriple_len _ _ _]; decide)).mono fun e w10 ⟨he, hd⟩ => ⟨by rw [he, LX.out], bcls_of (below_more h9 hd.below0 (HSM.out w9 h9))⟩) ?_
  simp only [Act.put, List.setIfInBounds_toArray, List.set_cons_succ, List.set_cons_zero]
  repeat (go_big_quiet_step (fail))
  refine quiet_load (by kernel_rfl) 52 _ rfl (N + 1 + 1 + 1) 0 2 5 x (by rfl) (fun w9 h9 => (Bx_4.out.under (HUP.out w9 (of_bcls h9))).rd0) HX.out (by kernel_rfl) (by kernel_rfl) ?_
  simp only [Act.put, List.setIfInBounds_toArray, List.set_cons_succ, List.set_cons_zero]
  refine quiet_load (by kernel_rfl) 52 _ rfl (N + 1 + 1 + 1 + 1) 0 2 5 y (by rfl) (fun w9 h9 => (By_4.out.under (HUP.out w9 (of_bcls h9))).rd0) HY.out (by kernel_rfl) (by kernel_rfl) ?_
  simp only [Act.put, List.setIfInBounds_toArray, List.set_cons_succ, List.set_cons_zero]
  repeat (go_big_quiet_step (fail))
  refine quiet_enter (by kernel_rfl) 14 #[.slice (some ⟨gP, 0, none⟩) 8 8, .slice (some ⟨gS, 0, none⟩) 8 8] (.bool q) (fun _ => by kernel_rfl) (fun w9 h9x => by have h9 := of_bcls h9x; exact (Same_any _ _ (pone k a x) (pone k b x) w9 (P_4.out.below (HUP.out w9 h9)) (S_4.out.below (HUP.out w9 h9)) (by rw [show (pone k a x).length = 8 from ptriple_len _ _ _]; decide)).mono fun e w10 ⟨he, hd⟩ => ⟨by rw [he, LA.out], bcls_of (below_more h9 hd.below0 (HSM.out w9 h9))⟩) ?_
  simp only [Act.put, List.setIfInBounds_toArray, List.set_cons_succ, List.set_cons_zero]
  repeat (go_big_quiet_step (fail))
  refine quiet_load (by kernel_rfl) 23 _ rfl (N + 1) 0 8 5 a (by rfl) (fun w9 h9 => (Ba_4.out.under (HUP.out w9 (of_bcls h9))).rd0) HA.out (by kernel_rfl) (by kernel_rfl) ?_
  simp only [Act.put, List.setIfInBounds_toArray, List.set_cons_succ, List.set_cons_zero]
  refine quiet_load (by kernel_rfl) 23 _ rfl (N + 1 + 1) 0 8 5 b (by rfl) (fun w9 h9 => (Bb_4.out.under (HUP.out w9 (of_bcls h9))).rd0) HB.out (by kernel_rfl) (by kernel_rfl) ?_
  simp only [Act.put, List.setIfInBounds_toArray, List.set_cons_succ, List.set_cons_zero]
  repeat (go_big_quiet_step (fail))
  refine wpQuiet_nil ?_
  intro w9 h9x
  have h9 := of_bcls h9x
  clear h9x
  go_wp2_with fail
  go_ret
  exact ⟨rfl, by rw [HN.out]; exact below_more hM4 h9 (by rw [← eM]; exact hs4)⟩
end Go.Proofs.Ytjbdhnmkeaogcaa
