/- The reference's AES: the words of a key of 16 bytes. -/
import Derived.Test.YtbbfjlnkhenbiaaGreatDoorKR1
set_option linter.unusedVariables false
set_option linter.unusedSimpArgs false
namespace Go.Proofs.YtbbfjlnkhenbiaaGreatDoor
open Go Go.RowKit Lk
set_option maxHeartbeats 12800000 in
set_option maxRecDepth 100000 in
theorem rWords_4 (vk : Value) (key : List UInt8) (w : World) (hk : SlB w vk key) (hkl : key.length = 16) :
    Calls Tryz.prog 100 #[vk] w fun e w' => ∃ v, e = .returned v ∧ Own w' w.heap.size v (pwords key) ∧ Below w.heap.size w w' := by
  obtain ⟨N, hN⟩ : ∃ N, w.heap.size = N := ⟨_, rfl⟩
  have HN := Lib.hid hN
  obtain ⟨A, ck, rfl, _, hkc, _, hkr0⟩ := hk
  rw [hkl] at hkc ⊢
  obtain ⟨gk, ok, rfl, hkr⟩ := hkr0 (by omega)
  have hgk : gk < N := by rw [← hN]; exact block_of_cell (hkr 0 (by omega))
  have HKR := Lib.hid hkr
  have HKL := Lib.hid hkl
  have HGK := Lib.hid hgk
  have HDIV := Lib.hid (show key.length / 4 = 4 by rw [hkl])
  have HPW := Lib.hid (show pwords key = (wst key (44 - 4)).1 by unfold pwords; rw [hkl]; rfl)
  clear hkr hkr0 hkl hN hgk
  go_enter Tryz.func100, Tryz.ntmps100
  go_wp2_with (first
    | (go_at_call 101; refine (rBoxes_any w).mono ?_; rintro e w1 ⟨rfl, hL1⟩; obtain ⟨gb, egb⟩ : ∃ g, w1.heap.size = g := ⟨_, rfl⟩; have HGB := Lib.hid egb; have HL1 := Lib.hid hL1; clear hL1)
    | ((with_reducible show wpList _ _ _ _ _ w1); refine alloc_row (w := w1) rfl 176 rfl (.agg (Bs (List.replicate 256 0))) 256 (fun _ => by kernel_rfl) rfl ?_; intro w2 hR2 _ hG2 hs2; rw [egb] at hR2; rw [egb])
    | ((with_reducible show wpList _ _ _ _ _ w2); refine store_blk (w := w2) rfl 176 _ _ rfl gb 176 256 (bx 255) rfl rfl hR2 (bx_len _) (by kernel_rfl) ?_; intro w3 hB3 hG3 hs3; have HB3 := Lib.hid hB3; have HM3 := Lib.hid (show Below N w w3 from (by rw [← HN.out]; exact below_new (below_none HL1.out HL1.out.size hG2) (by have := HL1.out.size; omega) hG3 (by have := HL1.out.size; have := HGB.out; omega))); have HS3 := Lib.hid (show N ≤ w3.heap.size from (by have := HL1.out.size; have := HN.out; omega)); have HGN := Lib.hid (show N ≤ gb from (by have := HL1.out.size; have := HN.out; have := HGB.out; omega)); have hz3 : gb < w3.heap.size := hB3.lt; clear hB3 hG3 hG2 hR2 hs2 hs3 egb))
  go_loopw [5, 6] (fun v i wr => ∃ k : Nat, k ≤ 4 ∧ i = .int .i64 k ∧ OwnW wr N v k (key.take (4 * k)) ∧ Blk wr gb 176 (bx 255) ∧ Below N w wr) (fun _ i _ => 4 - (intOf i).toNat)
  case atStart => exact ⟨0, by omega, rfl, OwnW.nil _ _, HB3.out, HM3.out⟩
  case round =>
    clear HB3 HM3 HS3 hz3
    obtain ⟨k, hk, rfl, hO, hX, hM⟩ := hrel
    have hsz := hM.size
    rw [HN.out] at hsz
    by_cases hlt : k < 4
    · have HLT := Lib.hid hlt
      obtain ⟨j, ej⟩ : ∃ j, 4 * k = j := ⟨_, rfl⟩
      have hj : j + 4 ≤ 16 := by omega
      have HC := Lib.hid (show ∀ q, j + q < 16 → wr.cell? ⟨gk, ok + (j + q), none⟩ = some (.int .u8 (bv (g8 key (j + q)))) from fun q hq => by
        have := HKR.out (j + q) (by rw [HKL.out]; exact hq)
        exact cell_below this hM HGK.out)
      have c0 := HC.out 0 (by omega)
      have c1 := HC.out 1 (by omega)
      have c2 := HC.out 2 (by omega)
      have c3 := HC.out 3 (by omega)
      rw [Nat.add_zero] at c0
      have HT4 := Lib.hid (take4 key k (by rw [HKL.out]; omega))
      have e0 : IntKind.i64.wrap (4 * (k : Int)) = (j : Int) := by rw [IntWalk.i64_in _ (by omega)]; omega
      have e1 : IntKind.i64.wrap ((j : Int) + 1) = (j : Int) + 1 := IntWalk.i64_in _ (by omega)
      have e2 : IntKind.i64.wrap ((j : Int) + 2) = (j : Int) + 2 := IntWalk.i64_in _ (by omega)
      have e3 : IntKind.i64.wrap ((j : Int) + 3) = (j : Int) + 3 := IntWalk.i64_in _ (by omega)
      have t1 : ((j : Int) + 1).toNat = j + 1 := by omega
      have t2 : ((j : Int) + 2).toNat = j + 2 := by omega
      have t3 : ((j : Int) + 3).toNat = j + 3 := by omega
      have p1 : (0 : Int) ≤ (j : Int) + 1 := by omega
      have p2 : (0 : Int) ≤ (j : Int) + 2 := by omega
      have p3 : (0 : Int) ≤ (j : Int) + 3 := by omega
      have l0 : (j : Int) < 16 := by omega
      have l1 : (j : Int) + 1 < 16 := by omega
      have l2 : (j : Int) + 2 < 16 := by omega
      have l3 : (j : Int) + 3 < 16 := by omega
      rw [ej] at HT4
      generalize g8 key j = x0 at c0 HT4
      generalize g8 key (j + 1) = x1 at c1 HT4
      generalize g8 key (j + 2) = x2 at c2 HT4
      generalize g8 key (j + 3) = x3 at c3 HT4
      have HO := Lib.hid hO
      have HX := Lib.hid hX
      have HM := Lib.hid hM
      rw [ej] at HO
      have EJ := Lib.hid ej
      clear hO hX hM ej
      go_wp2
      refine wp_region_held (S := fun w9 => Below N wr w9) (by kernel_rfl) ?_
      show wpAnyH _ _ _ _ _ 28 _ _ wr.drew
      have hdr : Below N wr wr.drew := ⟨rfl, rfl, rfl, Nat.le_refl _, fun _ _ => rfl⟩
      refine wpAnyH_take (i := 0) rfl (by kernel_rfl) (by kernel_rfl) (by kernel_rfl) (fun _ _ _ h => h) (yields_val (by kernel_rfl) (u5) (fun w => by kernel_rfl)) hdr ?_
      refine wpAnyH_take (i := 1) rfl (by kernel_rfl) (by kernel_rfl) (by kernel_rfl) (fun _ _ _ h => h) (yields_val (by kernel_rfl) (.slice (some ⟨gk, ok, none⟩) 16 ck) (fun w => by kernel_rfl)) hdr ?_
      refine wpAnyH_take (i := 2) rfl (by kernel_rfl) (by kernel_rfl) (by kernel_rfl) (fun _ _ _ h => h) (yields_val (by kernel_rfl) (.int .i64 k) (fun w => by kernel_rfl)) hdr ?_
      refine wpAnyH_take (i := 3) rfl (by kernel_rfl) (by kernel_rfl) (by kernel_rfl) (fun _ _ _ h => h) (yields_val (by kernel_rfl) (.int .i64 (IntKind.i64.wrap (4 * (k : Int)))) (fun w => by kernel_rfl)) hdr ?_
      refine wpAnyH_take (i := 4) rfl (by kernel_rfl) (by kernel_rfl) (by kernel_rfl) (fun _ _ _ h => h) (yields_ix (by kernel_rfl) 22 _ _ rfl gk (ok) 16 ck (j) 1 (IntKind.i64.wrap (4 * (k : Int))) (by kernel_rfl) (by kernel_rfl) (e0) (by omega) (ok + (j)) (by omega) (by kernel_rfl) (fun w => by kernel_rfl)) hdr ?_
      refine wpAnyH_take (i := 5) rfl (by kernel_rfl) (by kernel_rfl) (by kernel_rfl) (fun _ _ _ h => h) (yields_cell (by kernel_rfl) (.int .u8 (bv x0)) 5 _ rfl ⟨gk, ok + (j), none⟩ (by kernel_rfl) (fun w h => load_u8 w _ _ h) (fun w9 h9 => cell_below c0 h9 HGK.out)) hdr ?_
      refine wpAnyH_take (i := 6) rfl (by kernel_rfl) (by kernel_rfl) (by kernel_rfl) (fun _ _ _ h => h) (yields_val (by kernel_rfl) (.slice (some ⟨gk, ok, none⟩) 16 ck) (fun w => by kernel_rfl)) hdr ?_
      refine wpAnyH_take (i := 7) rfl (by kernel_rfl) (by kernel_rfl) (by kernel_rfl) (fun _ _ _ h => h) (yields_val (by kernel_rfl) (.int .i64 k) (fun w => by kernel_rfl)) hdr ?_
      refine wpAnyH_take (i := 8) rfl (by kernel_rfl) (by kernel_rfl) (by kernel_rfl) (fun _ _ _ h => h) (yields_val (by kernel_rfl) (.int .i64 (IntKind.i64.wrap (4 * (k : Int)))) (fun w => by kernel_rfl)) hdr ?_
      refine wpAnyH_take (i := 9) rfl (by kernel_rfl) (by kernel_rfl) (by kernel_rfl) (fun _ _ _ h => h) (yields_val (by kernel_rfl) (.int .i64 (IntKind.i64.wrap (IntKind.i64.wrap (4 * (k : Int)) + 1))) (fun w => by kernel_rfl)) hdr ?_
      refine wpAnyH_take (i := 10) rfl (by kernel_rfl) (by kernel_rfl) (by kernel_rfl) (fun _ _ _ h => h) (yields_ix (by kernel_rfl) 22 _ _ rfl gk (ok) 16 ck (j + 1) 1 (IntKind.i64.wrap (IntKind.i64.wrap (4 * (k : Int)) + 1)) (by kernel_rfl) (by kernel_rfl) (by rw [e0, e1]; push_cast; rfl) (by omega) (ok + (j + 1)) (by omega) (by kernel_rfl) (fun w => by kernel_rfl)) hdr ?_
      refine wpAnyH_take (i := 11) rfl (by kernel_rfl) (by kernel_rfl) (by kernel_rfl) (fun _ _ _ h => h) (yields_cell (by kernel_rfl) (.int .u8 (bv x1)) 5 _ rfl ⟨gk, ok + (j + 1), none⟩ (by kernel_rfl) (fun w h => load_u8 w _ _ h) (fun w9 h9 => cell_below c1 h9 HGK.out)) hdr ?_
      refine wpAnyH_take (i := 12) rfl (by kernel_rfl) (by kernel_rfl) (by kernel_rfl) (fun _ _ _ h => h) (yields_val (by kernel_rfl) (.slice (some ⟨gk, ok, none⟩) 16 ck) (fun w => by kernel_rfl)) hdr ?_
      refine wpAnyH_take (i := 13) rfl (by kernel_rfl) (by kernel_rfl) (by kernel_rfl) (fun _ _ _ h => h) (yields_val (by kernel_rfl) (.int .i64 k) (fun w => by kernel_rfl)) hdr ?_
      refine wpAnyH_take (i := 14) rfl (by kernel_rfl) (by kernel_rfl) (by kernel_rfl) (fun _ _ _ h => h) (yields_val (by kernel_rfl) (.int .i64 (IntKind.i64.wrap (4 * (k : Int)))) (fun w => by kernel_rfl)) hdr ?_
      refine wpAnyH_take (i := 15) rfl (by kernel_rfl) (by kernel_rfl) (by kernel_rfl) (fun _ _ _ h => h) (yields_val (by kernel_rfl) (.int .i64 (IntKind.i64.wrap (IntKind.i64.wrap (4 * (k : Int)) + 2))) (fun w => by kernel_rfl)) hdr ?_
      refine wpAnyH_take (i := 16) rfl (by kernel_rfl) (by kernel_rfl) (by kernel_rfl) (fun _ _ _ h => h) (yields_ix (by kernel_rfl) 22 _ _ rfl gk (ok) 16 ck (j + 2) 1 (IntKind.i64.wrap (IntKind.i64.wrap (4 * (k : Int)) + 2)) (by kernel_rfl) (by kernel_rfl) (by rw [e0, e2]; push_cast; rfl) (by omega) (ok + (j + 2)) (by omega) (by kernel_rfl) (fun w => by kernel_rfl)) hdr ?_
      refine wpAnyH_take (i := 17) rfl (by kernel_rfl) (by kernel_rfl) (by kernel_rfl) (fun _ _ _ h => h) (yields_cell (by kernel_rfl) (.int .u8 (bv x2)) 5 _ rfl ⟨gk, ok + (j + 2), none⟩ (by kernel_rfl) (fun w h => load_u8 w _ _ h) (fun w9 h9 => cell_below c2 h9 HGK.out)) hdr ?_
      refine wpAnyH_take (i := 18) rfl (by kernel_rfl) (by kernel_rfl) (by kernel_rfl) (fun _ _ _ h => h) (yields_val (by kernel_rfl) (.slice (some ⟨gk, ok, none⟩) 16 ck) (fun w => by kernel_rfl)) hdr ?_
      refine wpAnyH_take (i := 19) rfl (by kernel_rfl) (by kernel_rfl) (by kernel_rfl) (fun _ _ _ h => h) (yields_val (by kernel_rfl) (.int .i64 k) (fun w => by kernel_rfl)) hdr ?_
      refine wpAnyH_take (i := 20) rfl (by kernel_rfl) (by kernel_rfl) (by kernel_rfl) (fun _ _ _ h => h) (yields_val (by kernel_rfl) (.int .i64 (IntKind.i64.wrap (4 * (k : Int)))) (fun w => by kernel_rfl)) hdr ?_
      refine wpAnyH_take (i := 21) rfl (by kernel_rfl) (by kernel_rfl) (by kernel_rfl) (fun _ _ _ h => h) (yields_val (by kernel_rfl) (.int .i64 (IntKind.i64.wrap (IntKind.i64.wrap (4 * (k : Int)) + 3))) (fun w => by kernel_rfl)) hdr ?_
      refine wpAnyH_take (i := 22) rfl (by kernel_rfl) (by kernel_rfl) (by kernel_rfl) (fun _ _ _ h => h) (yields_ix (by kernel_rfl) 22 _ _ rfl gk (ok) 16 ck (j + 3) 1 (IntKind.i64.wrap (IntKind.i64.wrap (4 * (k : Int)) + 3)) (by kernel_rfl) (by kernel_rfl) (by rw [e0, e3]; push_cast; rfl) (by omega) (ok + (j + 3)) (by omega) (by kernel_rfl) (fun w => by kernel_rfl)) hdr ?_
      refine wpAnyH_take (i := 23) rfl (by kernel_rfl) (by kernel_rfl) (by kernel_rfl) (fun _ _ _ h => h) (yields_cell (by kernel_rfl) (.int .u8 (bv x3)) 5 _ rfl ⟨gk, ok + (j + 3), none⟩ (by kernel_rfl) (fun w h => load_u8 w _ _ h) (fun w9 h9 => cell_below c3 h9 HGK.out)) hdr ?_
      refine wpAnyH_take (i := 24) rfl (by kernel_rfl) (by kernel_rfl) (by kernel_rfl) (fun _ _ _ h => h) (yields_val (by kernel_rfl) (.agg (Bs [x0, x1, x2, x3])) (fun w => by kernel_rfl)) hdr ?_
      refine wpAnyH_all (rs := [25]) (by kernel_rfl) (by decide) ?_
      intro i0 hi0
      obtain rfl : i0 = 25 := by simpa using hi0
      refine wpOp_run rfl (by kernel_rfl) (.slice (some ⟨wr.heap.size, 0, none⟩) 1 1) (wr.drew.alloc (.cells (Bs [x0, x1, x2, x3]) w4t)) (by kernel_rfl) ?_
      have hS1 : Below N wr (wr.drew.alloc (.cells (Bs [x0, x1, x2, x3]) w4t)) := below_alloc hdr hsz _
      refine ⟨hS1, ?_⟩
      refine wpAnyH_all (rs := [26]) (by kernel_rfl) (by decide) ?_
      intro i1 hi1
      obtain rfl : i1 = 26 := by simpa using hi1
      refine wpOp_append_w rfl (by kernel_rfl) hu_w4 hi_w4 rfl _ _ rfl N k u5 (key.take j) (by kernel_rfl) (HO.out.alloc _).drew wr.heap.size [x0, x1, x2, x3] (by kernel_rfl) (rd_bs wr _ [x0, x1, x2, x3]) rfl (by omega) (by simp; omega) ?_
      intro g7 cap7 w7 hO7 hG7 hg7
      have hdr : Below N wr w7 := below_own hS1 (by simp; omega) hG7 (fun q hq => (HO.out.lt q hq).1)
      refine ⟨hdr, ?_⟩
      refine wpAnyH_take (i := 27) rfl (by kernel_rfl) (by kernel_rfl) (by kernel_rfl) (fun _ _ _ h => h) (yields_val (by kernel_rfl) (.slice (some ⟨g7, 0, none⟩) (k + 1) cap7) (fun w => by kernel_rfl)) hdr ?_
      refine wpAnyH_done (by kernel_rfl) ?_ _
      simp only [Act.put, List.getElem_toArray, List.getElem_cons_succ, List.getElem_cons_zero, List.setIfInBounds_toArray, List.set_cons_succ, List.set_cons_zero]
      all_goals
        clear c0 c1 c2 c3 e0 e1 e2 e3 t1 t2 t3 p1 p2 p3 l0 l1 l2 l3
        have hM7 : Below N w w7 := below_more HM.out hdr (Nat.le_refl _)
        have hX7 : Blk w7 gb 176 (bx 255) := ((HX.out.drew).alloc _).old hG7 (HO.out.ne_own HX.out (by decide))
        go_wp2
        go_roundw
        case rel => exact ⟨k + 1, HLT.out, by go_num, by rw [HT4.out]; exact hO7, hX7, hM7⟩
        case measure => have := HLT.out; simp [intOf]; omega
    · have hk4 : k = 4 := by omega
      obtain ⟨g, cap, rfl, hg1, hg2, hr1, hc1, hc2⟩ := hO.form (by omega)
      rw [List.take_of_length_le (by rw [HKL.out]; omega)] at hO
      have hO1 := hO
      rw [hk4] at hO1
      have HK4 := Lib.hid hk4
      have hkti : ¬ ((k : Int) < 4) := by omega
      have HO := Lib.hid hO1
      have HX := Lib.hid hX
      have HM := Lib.hid hM
      clear hO hO1 hX hM hr1 hsz hk hg1 hg2 hlt hk4
      go_wp2
      go_loopw [5, 7] (fun v i wr => ∃ (m g cap : Nat), 4 ≤ m ∧ m ≤ 44 ∧ i = .int .i64 m ∧ v = .slice (some ⟨g, 0, none⟩) m cap ∧ OwnW wr N (.slice (some ⟨g, 0, none⟩) m cap) m (wst key (m - 4)).1 ∧ Blk wr gb 176 (bx 255) ∧ Below N w wr) (fun _ i _ => 44 - (intOf i).toNat)
      case atStart => exact ⟨4, g, cap, by omega, by omega, rfl, by rw [HK4.out], HO.out, HX.out, HM.out⟩
      case round =>
        clear HO HX HM hc1 hc2
        obtain ⟨m, g, cap, hm1, hm2, rfl, rfl, hO, hX, hM⟩ := hrel
        have hsz := hM.size
        rw [HN.out] at hsz
        have hWl := hO.len
        obtain ⟨g', cap', eg, hgN, hgs, hr, hcm, hcx⟩ := hO.form (by omega)
        cases eg
        have hgb := hO.ne_blk hX (by decide)
        have hgbs := hX.lt
        obtain ⟨W, eW⟩ : ∃ W, (wst key (m - 4)).1 = W := ⟨_, rfl⟩
        rw [eW] at hO hWl hr
        have EW := Lib.hid eW
        have HWL := Lib.hid hWl
        have HR := Lib.hid hr
        have HO := Lib.hid hO
        have HX := Lib.hid hX
        have HM := Lib.hid hM
        clear eW hO hX hM hr
        by_cases hlt : m < 44
        · have HLT := Lib.hid hlt
          have hpw := wst_pow_at key 4 m HDIV.out (by omega) hm1
          have hlti : (m : Int) < 44 := by omega
          have hm0 : (0 : Int) ≤ (m : Int) - 1 := by omega
          have hml : (m : Int) - 1 < (m : Int) := by omega
          have tm1 : ((m : Int) - 1).toNat = m - 1 := by omega
          obtain ⟨t4, et4⟩ : ∃ t, W.drop (W.length - 4) = t := ⟨_, rfl⟩
          have h44 : t4.length = 4 := by rw [← et4, List.length_drop]; omega
          have HR4 : Hid (Rd wr g ((m - 1) * 4) t4) := Lib.hid (fun q hq => by
            have := HR.out ((m - 1) * 4 + q) (by rw [h44] at hq; omega)
            rw [Nat.zero_add] at this
            rw [this, ← et4]
            unfold g8
            simp only [List.getD_eq_getElem?_getD, List.getElem?_drop]
            rw [show W.length - 4 + q = (m - 1) * 4 + q by omega])
          have H44 := Lib.hid h44
          have ET4 := Lib.hid et4
          obtain ⟨n0, en0⟩ : ∃ n, wr.heap.size = n := ⟨_, rfl⟩
          have EN0 := Lib.hid en0
          have HPW2 := Lib.hid hpw
          clear h44 et4 hpw hWl en0 hlt
          by_cases h0 : m % 4 = 0
          · have z0 : ((m : Int) % 4 == 0) = true := by rw [beq_iff_eq]; omega
            have H0 := Lib.hid h0
            clear h0
            go_wp2_with (first
              | ((with_reducible show wpList _ _ _ _ _ wr); refine load_rd (w := wr) rfl 204 _ rfl g ((m - 1) * 4) 4 5 t4 (by rfl) HR4.out H44.out (by kernel_rfl) (by kernel_rfl) ?_)
              | ((with_reducible show wpList _ _ _ _ _ wr); refine alloc_row (w := wr) rfl 204 rfl (.agg (Bs (List.replicate 4 0))) 4 (fun _ => by kernel_rfl) rfl ?_; intro w4 hR4 _ hG4 hs4; rw [EN0.out] at hR4; rw [EN0.out])
              | ((with_reducible show wpList _ _ _ _ _ w4); refine store_blk (w := w4) rfl 204 _ _ rfl n0 204 4 t4 (by rfl) (by rfl) hR4 H44.out (by kernel_rfl) ?_; intro w5 hB5 hG5 hs5; have q0 := hB5.cell 0 (by rw [H44.out]; decide); have q1 := hB5.cell 1 (by rw [H44.out]; decide); have q2 := hB5.cell 2 (by rw [H44.out]; decide); have q3 := hB5.cell 3 (by rw [H44.out]; decide))
              | ((with_reducible show wpList _ _ _ _ _ w5); refine store_blk (w := w5) rfl 204 _ _ rfl n0 204 4 [g8 t4 1, g8 t4 2, g8 t4 3, g8 t4 0] (by rfl) (by rfl) (hB5.row H44.out) rfl (by kernel_rfl) ?_; intro w6 hB6 hG6 hs6))
            have hgn : g ≠ n0 := by have := EN0.out; omega
            have hbn : gb ≠ n0 := by have := EN0.out; omega
            have hNn : N ≤ n0 := by have := EN0.out; omega
            have hGx : wr.grownBy w6 (some n0) := (grown_trans (grown_trans (grown_weakr hG4) hG5) hG6)
            obtain ⟨ta, eta⟩ : ∃ t, t = [g8 t4 1, g8 t4 2, g8 t4 3, g8 t4 0] := ⟨_, rfl⟩
            have HTA := Lib.hid (show Blk w6 n0 204 ta by rw [eta]; exact hB6)
            have HTL := Lib.hid (show ta.length = 4 by rw [eta]; first | rfl | exact H44.out)
            have ETA := Lib.hid eta
            have HX5 := Lib.hid (show Blk w6 gb 176 (bx 255) from HX.out.old hGx (by simp; omega))
            have HO5 := Lib.hid (show OwnW w6 N (.slice (some ⟨g, 0, none⟩) m cap) m W from HO.out.kept hGx (.inr (by simp [Value.ownBlock]; exact hgn)))
            have HM5 := Lib.hid (show Below N w w6 from below_new HM.out hsz hGx hNn)
            have HZ5 := Lib.hid (show n0 < w6.heap.size from HTA.out.lt)
            clear hGx eta hG4 hG5 hB5 hR4 hs4 hs5 hG6 hB6 hs6 q0 q1 q2 q3
            obtain ⟨wo, ewo⟩ : ∃ wo : World, wo = w6 := ⟨_, rfl⟩
            subst ewo
            go_loopw [9] (fun k wq => ∃ kk : Nat, kk ≤ 4 ∧ k = .int .i64 kk ∧ Blk wq n0 204 (mix4 ta kk) ∧ wo.grownBy wq (some n0)) (fun k _ => 4 - (intOf k).toNat)
            case atStart => exact ⟨0, by omega, rfl, by rw [mix4_zero _ HTL.out]; exact HTA.out, grown_refl _ _⟩
            case round =>
              obtain ⟨kk, hkk, rfl, hT6, hG6⟩ := hrel
              by_cases hkt : kk < 4
              · have d2 := hT6.cell kk (by rw [mix4_len]; omega)
                rw [mix4_at _ _ _ hkt, if_neg (by omega)] at d2
                have HSE := Lib.hid (mix4_set ta kk hkt)
                generalize g8 ta kk = x at d2 HSE
                have hx0 := bv_ge x
                have hx1 := bv_lt x
                have hxt : (bv x).toNat = x.toNat := by unfold bv; simp
                have d3 := (HX5.out.old hG6 (by simp; omega)).cell x.toNat (by rw [bx_len]; exact x.toNat_lt)
                rw [bx_at] at d3
                have f2 := hT6.free kk
                have HT6 := Lib.hid hT6
                have HG6 := Lib.hid hG6
                have HKT := Lib.hid hkt
                clear hT6 hG6
                go_wp2
                go_roundw
                case rel => exact ⟨kk + 1, HKT.out, by go_num, by rw [← HSE.out]; exact HT6.out.set kk _, grown_set HG6.out _ _⟩
                case measure => have := HKT.out; simp [intOf]; omega
              · have hk4 : kk = 4 := by omega
                rw [hk4] at hT6
                obtain ⟨w7, rfl⟩ : ∃ w7 : World, w7 = wr := ⟨_, rfl⟩
                have hkti : ¬ ((kk : Int) < 4) := by omega
                clear hk4 hkk hkt
                obtain ⟨tb, etb⟩ : ∃ t, mix4 ta 4 = t := ⟨_, rfl⟩
                rw [etb] at hT6
                have HTL7 := Lib.hid (show tb.length = 4 by rw [← etb, mix4_len])
                have ETB := Lib.hid etb
                have HT7 := Lib.hid hT6
                have HX7 := Lib.hid (HX5.out.old hG6 (by simp; omega))
                have HO7 := Lib.hid (HO5.out.kept hG6 (.inr (by simp [Value.ownBlock]; exact hgn)))
                have HM7 := Lib.hid (show Below N w w7 from below_new HM5.out (by have := HZ5.out; omega) hG6 hNn)
                have HZ7 := Lib.hid (show n0 < w7.heap.size from hT6.lt)
                clear hT6 hG6 etb HX5 HO5 HM5 HZ5 HTA
                obtain ⟨d, ed⟩ : ∃ d, m / 4 = d := ⟨_, rfl⟩
                have hd : ((m : Int) / 4) = (d : Int) := by omega
                have hd1 : 1 ≤ d := by omega
                have hd15 : d ≤ 20 := by omega
                have ED := Lib.hid ed
                clear ed
                go_wp2
                go_loop [10, 11] (fun p k => ∃ q : Nat, q + 1 ≤ d ∧ k = .int .i64 ((q : Int) + 1) ∧ p = .int .u8 (bv (gpw q))) (fun _ k => d - (intOf k).toNat)
                case atStart => exact ⟨0, by omega, rfl, rfl⟩
                case round =>
                  obtain ⟨q, hq, rfl, rfl⟩ := hrel
                  by_cases hqd : q + 1 < d
                  · have hqi : (q : Int) + 1 < (d : Int) := by omega
                    have HQ := Lib.hid hqd
                    clear hqd
                    go_wp2_with (go_at_call 102; refine (rMul_2 _ _).mono ?_; rintro e w7 ⟨rfl, rfl⟩)
                    go_round
                    case rel => exact ⟨q + 1, by have := HQ.out; omega, by go_num, rfl⟩
                    case measure => have := HQ.out; simp [intOf]; omega
                  · obtain rfl : d = q + 1 := by omega
                    have q0 := HT7.out.cell 0 (by rw [HTL7.out]; decide)
                    have q1 := HT7.out.free 0
                    have HWT := Lib.hid (show wturn 4 m (wst key (m - 4)).2 t4 = tb.set 0 (g8 tb 0 ^^^ gpw q) by
                      rw [HPW2.out H0.out, ED.out, Nat.add_sub_cancel, wturn, if_pos H0.out, ← ETB.out, mix4_four, ETA.out]; rfl)
                    generalize gpw q = pp at HWT ⊢
                    go_wp2
                    have hGs : w7.grownBy (w7.setCell ⟨n0, 0, none⟩ (.int .u8 (bv (g8 tb 0 ^^^ pp)))) (some n0) := grown_set (grown_refl _ _) _ _
                    have HT8 := Lib.hid (HT7.out.set 0 (g8 tb 0 ^^^ pp))
                    have HX8 := Lib.hid (HX7.out.old hGs (by simp; omega))
                    have HO8 := Lib.hid (HO7.out.kept hGs (.inr (by simp [Value.ownBlock]; exact hgn)))
                    have HM8 := Lib.hid (show Below N w _ from below_new HM7.out (by have := HZ7.out; omega) hGs hNn)
                    have HZ8 := Lib.hid (show n0 < (w7.setCell ⟨n0, 0, none⟩ (.int .u8 (bv (g8 tb 0 ^^^ pp)))).heap.size from by rw [World.size_setCell]; exact HZ7.out)
                    have HL8 := Lib.hid (show (tb.set 0 (g8 tb 0 ^^^ pp)).length = 4 by rw [List.length_set, HTL7.out])
                    generalize w7.setCell ⟨n0, 0, none⟩ (.int .u8 (bv (g8 tb 0 ^^^ pp))) = w8 at HT8 HX8 HO8 HM8 HZ8 ⊢
                    generalize tb.set 0 (g8 tb 0 ^^^ pp) = t5 at HT8 HWT HL8
                    clear hGs q0 q1 HT7 HX7 HO7 HM7 HZ7
                    go_loopw [12] (fun k wq => ∃ kk : Nat, kk ≤ 4 ∧ k = .int .i64 kk ∧ Blk wq n0 204 (updn 4 (wx W t5 (4 * (m - 4))) t5 kk) ∧ w8.grownBy wq (some n0)) (fun k _ => 4 - (intOf k).toNat)
                    case atStart => exact ⟨0, by omega, rfl, by rw [updn_zero _ _ _ HL8.out]; exact HT8.out, grown_refl _ _⟩
                    case round =>
                      obtain ⟨kk, hkk, rfl, hT9, hG9⟩ := hrel
                      have hO9 := HO8.out.kept hG9 (.inr (by simp [Value.ownBlock]; exact hgn))
                      by_cases hkt : kk < 4
                      · have d1 := hT9.cell kk (by rw [updn_len]; exact hkt)
                        rw [updn_at _ _ _ _ _ hkt, if_neg (by omega)] at d1
                        obtain ⟨g'', c'', eg2, _, _, hr9, _, _⟩ := hO9.form (by omega)
                        cases eg2
                        have d2 := hr9 ((m - 4) * 4 + kk) (by rw [HWL.out]; omega)
                        rw [Nat.zero_add] at d2
                        have f1 := hT9.free kk
                        have s0 : (0 : Int) ≤ (m : Int) - 4 := by omega
                        have s1 : (m : Int) - 4 < (m : Int) := by omega
                        have s2 : ((m : Int) - 4).toNat = m - 4 := by omega
                        have s3 : IntKind.i64.wrap ((m : Int) - 4) = (m : Int) - 4 := IntWalk.i64_in _ (by omega)
                        have HSE := Lib.hid (updn_set 4 (wx W t5 (4 * (m - 4))) t5 kk hkt)
                        have hwx : wx W t5 (4 * (m - 4)) kk = g8 t5 kk ^^^ g8 W ((m - 4) * 4 + kk) := by unfold wx; rw [Nat.mul_comm 4]
                        rw [hwx] at HSE
                        generalize g8 t5 kk = y1 at d1 HSE
                        generalize g8 W ((m - 4) * 4 + kk) = y2 at d2 HSE
                        have HT9 := Lib.hid hT9
                        have HG9 := Lib.hid hG9
                        have HKT := Lib.hid hkt
                        clear hT9 hG9 hO9 hr9 hwx hkk
                        go_wp2
                        go_region
                        go_wp2
                        go_roundw
                        case rel =>
                          refine ⟨kk + 1, HKT.out, by go_num, ?_, grown_drew (grown_set HG9.out _ _)⟩
                          rw [← HSE.out]
                          exact (HT9.out.set kk _).drew
                        case measure => have := HKT.out; simp [intOf]; omega
                      · obtain rfl : kk = 4 := by omega
                        obtain ⟨w9, rfl⟩ : ∃ w9 : World, w9 = wr := ⟨_, rfl⟩
                        obtain ⟨tt, ett⟩ : ∃ t, updn 4 (wx W t5 (4 * (m - 4))) t5 4 = t := ⟨_, rfl⟩
                        have htl : tt.length = 4 := by rw [← ett, updn_len]
                        rw [ett] at hT9
                        have HE := Lib.hid (show wst key (m + 1 - 4) = (W ++ tt, if m % 4 = 0 then gmul (wst key (m - 4)).2 2 else (wst key (m - 4)).2) by
                          have h := wst_succ key W t4 t5 4 m (wst key (m - 4)).2 _ HDIV.out hm1 (by rw [← EW.out]) ET4.out HWT.out rfl
                          rw [h, ← ett, wx_next 4 m W t5 (by rw [HWL.out]; omega) hm1 HL8.out])
                        have HT9 := Lib.hid hT9
                        have HTT := Lib.hid htl
                        have HO9 := Lib.hid hO9
                        have HX9 := Lib.hid (HX8.out.old hG9 (by simp; omega))
                        have HM9 := Lib.hid (show Below N w w9 from below_new HM8.out (by have := HZ8.out; omega) hG9 hNn)
                        have HZ9 := Lib.hid (show N ≤ w9.heap.size from by have := hG9.size; have := HZ8.out; omega)
                        obtain ⟨y0, y1, y2, y3, ey⟩ := list4 tt htl
                        subst ey
                        clear hT9 hG9 hO9 ett htl HT8 HX8 HO8 HM8 HZ8 hkk hkt
                        go_wp2_with (first
                          | ((with_reducible show wpList _ _ _ _ _ w9); refine load_blk (w := w9) rfl 204 _ rfl n0 204 4 5 [y0, y1, y2, y3] (by rfl) HT9.out rfl (by kernel_rfl) (by kernel_rfl) ?_)
                          | ((with_reducible show wpList _ _ _ _ _ w9); refine op_word (w := w9) rfl 208 1 _ rfl (.slice (some ⟨w9.heap.size, 0, none⟩) 1 1) (w9.alloc (.cells (Bs [y0, y1, y2, y3]) w4t)) (by kernel_rfl) ?_)
                          | (at_builtin; refine append_w hu_w4 hi_w4 rfl _ _ rfl N m _ W (by rfl) (HO9.out.alloc _) w9.heap.size [y0, y1, y2, y3] (by rfl) (rd_bs w9 _ [y0, y1, y2, y3]) rfl (by omega) (by have := HZ9.out; simp; omega) ?_; intro va wa hOa hGa; have HOa := Lib.hid hOa; have HGa := Lib.hid hGa; clear hOa hGa))
                        obtain ⟨ga, ca, eva, _, _, _, _, _⟩ := HOa.out.form (by omega)
                        subst eva
                        go_roundw
                        case rel =>
                          refine ⟨m + 1, ga, ca, by omega, HLT.out, by go_num, rfl, by rw [HE.out]; exact HOa.out, (HX9.out.alloc _).old HGa.out (HO9.out.ne_own HX9.out (by decide)), ?_⟩
                          exact below_own (below_alloc HM9.out HZ9.out _) (by have := HZ9.out; simp; omega) HGa.out (fun q hq => (HO9.out.lt q hq).1)
                        case measure => have := HLT.out; simp [intOf]; omega
          · have z0 : ((m : Int) % 4 == 0) = false := by rw [beq_eq_false_iff_ne]; omega
            have H0 := Lib.hid h0
            clear h0
            go_wp2_with (first
              | ((with_reducible show wpList _ _ _ _ _ wr); refine load_rd (w := wr) rfl 204 _ rfl g ((m - 1) * 4) 4 5 t4 (by rfl) HR4.out H44.out (by kernel_rfl) (by kernel_rfl) ?_)
              | ((with_reducible show wpList _ _ _ _ _ wr); refine alloc_row (w := wr) rfl 204 rfl (.agg (Bs (List.replicate 4 0))) 4 (fun _ => by kernel_rfl) rfl ?_; intro w4 hR4 _ hG4 hs4; rw [EN0.out] at hR4; rw [EN0.out])
              | ((with_reducible show wpList _ _ _ _ _ w4); refine store_blk (w := w4) rfl 204 _ _ rfl n0 204 4 t4 (by rfl) (by rfl) hR4 H44.out (by kernel_rfl) ?_; intro w5 hB5 hG5 hs5))
            have hgn : g ≠ n0 := by have := EN0.out; omega
            have hbn : gb ≠ n0 := by have := EN0.out; omega
            have hNn : N ≤ n0 := by have := EN0.out; omega
            have hGx : wr.grownBy w5 (some n0) := (grown_trans (grown_weakr hG4) hG5)
            obtain ⟨ta, eta⟩ : ∃ t, t = t4 := ⟨_, rfl⟩
            have HTA := Lib.hid (show Blk w5 n0 204 ta by rw [eta]; exact hB5)
            have HTL := Lib.hid (show ta.length = 4 by rw [eta]; first | rfl | exact H44.out)
            have ETA := Lib.hid eta
            have HX5 := Lib.hid (show Blk w5 gb 176 (bx 255) from HX.out.old hGx (by simp; omega))
            have HO5 := Lib.hid (show OwnW w5 N (.slice (some ⟨g, 0, none⟩) m cap) m W from HO.out.kept hGx (.inr (by simp [Value.ownBlock]; exact hgn)))
            have HM5 := Lib.hid (show Below N w w5 from below_new HM.out hsz hGx hNn)
            have HZ5 := Lib.hid (show n0 < w5.heap.size from HTA.out.lt)
            clear hGx eta hG4 hG5 hB5 hR4 hs4 hs5 
            obtain ⟨w8, ew8⟩ : ∃ w8 : World, w8 = w5 := ⟨_, rfl⟩
            subst ew8
            obtain ⟨t5, et5⟩ : ∃ t5 : List UInt8, t5 = ta := ⟨_, rfl⟩
            subst et5
            have HWT := Lib.hid (show wturn 4 m (wst key (m - 4)).2 t4 = t5 by rw [wturn, if_neg H0.out, if_neg (by omega), ETA.out])
            have HT8 := HTA
            have HX8 := HX5
            have HO8 := HO5
            have HM8 := HM5
            have HZ8 := HZ5
            have HL8 := HTL
            clear HTA HX5 HO5 HM5 HZ5
            go_loopw [12] (fun k wq => ∃ kk : Nat, kk ≤ 4 ∧ k = .int .i64 kk ∧ Blk wq n0 204 (updn 4 (wx W t5 (4 * (m - 4))) t5 kk) ∧ w8.grownBy wq (some n0)) (fun k _ => 4 - (intOf k).toNat)
            case atStart => exact ⟨0, by omega, rfl, by rw [updn_zero _ _ _ HL8.out]; exact HT8.out, grown_refl _ _⟩
            case round =>
              obtain ⟨kk, hkk, rfl, hT9, hG9⟩ := hrel
              have hO9 := HO8.out.kept hG9 (.inr (by simp [Value.ownBlock]; exact hgn))
              by_cases hkt : kk < 4
              · have d1 := hT9.cell kk (by rw [updn_len]; exact hkt)
                rw [updn_at _ _ _ _ _ hkt, if_neg (by omega)] at d1
                obtain ⟨g'', c'', eg2, _, _, hr9, _, _⟩ := hO9.form (by omega)
                cases eg2
                have d2 := hr9 ((m - 4) * 4 + kk) (by rw [HWL.out]; omega)
                rw [Nat.zero_add] at d2
                have f1 := hT9.free kk
                have s0 : (0 : Int) ≤ (m : Int) - 4 := by omega
                have s1 : (m : Int) - 4 < (m : Int) := by omega
                have s2 : ((m : Int) - 4).toNat = m - 4 := by omega
                have s3 : IntKind.i64.wrap ((m : Int) - 4) = (m : Int) - 4 := IntWalk.i64_in _ (by omega)
                have HSE := Lib.hid (updn_set 4 (wx W t5 (4 * (m - 4))) t5 kk hkt)
                have hwx : wx W t5 (4 * (m - 4)) kk = g8 t5 kk ^^^ g8 W ((m - 4) * 4 + kk) := by unfold wx; rw [Nat.mul_comm 4]
                rw [hwx] at HSE
                generalize g8 t5 kk = y1 at d1 HSE
                generalize g8 W ((m - 4) * 4 + kk) = y2 at d2 HSE
                have HT9 := Lib.hid hT9
                have HG9 := Lib.hid hG9
                have HKT := Lib.hid hkt
                clear hT9 hG9 hO9 hr9 hwx hkk
                go_wp2
                go_region
                go_wp2
                go_roundw
                case rel =>
                  refine ⟨kk + 1, HKT.out, by go_num, ?_, grown_drew (grown_set HG9.out _ _)⟩
                  rw [← HSE.out]
                  exact (HT9.out.set kk _).drew
                case measure => have := HKT.out; simp [intOf]; omega
              · obtain rfl : kk = 4 := by omega
                obtain ⟨w9, rfl⟩ : ∃ w9 : World, w9 = wr := ⟨_, rfl⟩
                obtain ⟨tt, ett⟩ : ∃ t, updn 4 (wx W t5 (4 * (m - 4))) t5 4 = t := ⟨_, rfl⟩
                have htl : tt.length = 4 := by rw [← ett, updn_len]
                rw [ett] at hT9
                have HE := Lib.hid (show wst key (m + 1 - 4) = (W ++ tt, if m % 4 = 0 then gmul (wst key (m - 4)).2 2 else (wst key (m - 4)).2) by
                  have h := wst_succ key W t4 t5 4 m (wst key (m - 4)).2 _ HDIV.out hm1 (by rw [← EW.out]) ET4.out HWT.out rfl
                  rw [h, ← ett, wx_next 4 m W t5 (by rw [HWL.out]; omega) hm1 HL8.out])
                have HT9 := Lib.hid hT9
                have HTT := Lib.hid htl
                have HO9 := Lib.hid hO9
                have HX9 := Lib.hid (HX8.out.old hG9 (by simp; omega))
                have HM9 := Lib.hid (show Below N w w9 from below_new HM8.out (by have := HZ8.out; omega) hG9 hNn)
                have HZ9 := Lib.hid (show N ≤ w9.heap.size from by have := hG9.size; have := HZ8.out; omega)
                obtain ⟨y0, y1, y2, y3, ey⟩ := list4 tt htl
                subst ey
                clear hT9 hG9 hO9 ett htl HT8 HX8 HO8 HM8 HZ8 hkk hkt
                go_wp2_with (first
                  | ((with_reducible show wpList _ _ _ _ _ w9); refine load_blk (w := w9) rfl 204 _ rfl n0 204 4 5 [y0, y1, y2, y3] (by rfl) HT9.out rfl (by kernel_rfl) (by kernel_rfl) ?_)
                  | ((with_reducible show wpList _ _ _ _ _ w9); refine op_word (w := w9) rfl 208 1 _ rfl (.slice (some ⟨w9.heap.size, 0, none⟩) 1 1) (w9.alloc (.cells (Bs [y0, y1, y2, y3]) w4t)) (by kernel_rfl) ?_)
                  | (at_builtin; refine append_w hu_w4 hi_w4 rfl _ _ rfl N m _ W (by rfl) (HO9.out.alloc _) w9.heap.size [y0, y1, y2, y3] (by rfl) (rd_bs w9 _ [y0, y1, y2, y3]) rfl (by omega) (by have := HZ9.out; simp; omega) ?_; intro va wa hOa hGa; have HOa := Lib.hid hOa; have HGa := Lib.hid hGa; clear hOa hGa))
                obtain ⟨ga, ca, eva, _, _, _, _, _⟩ := HOa.out.form (by omega)
                subst eva
                go_roundw
                case rel =>
                  refine ⟨m + 1, ga, ca, by omega, HLT.out, by go_num, rfl, by rw [HE.out]; exact HOa.out, (HX9.out.alloc _).old HGa.out (HO9.out.ne_own HX9.out (by decide)), ?_⟩
                  exact below_own (below_alloc HM9.out HZ9.out _) (by have := HZ9.out; simp; omega) HGa.out (fun q hq => (HO9.out.lt q hq).1)
                case measure => have := HLT.out; simp [intOf]; omega
        · have hmm : m = 44 := by omega
          have hmti : ¬ ((m : Int) < 44) := by omega
          have hWf : W = pwords key := by rw [HPW.out, ← EW.out, hmm]
          subst hWf
          have HMM := Lib.hid hmm
          have hm60 : m ≤ 60 := by omega
          clear hlt hm1 hm2 hmm
          obtain ⟨wo, ewo⟩ : ∃ wo : World, wo = wr := ⟨_, rfl⟩
          subst ewo
          go_wp2
          go_loopw [13, 14] (fun v i wr => ∃ k : Nat, k ≤ m ∧ i = .int .i64 k ∧ Own wr wo.heap.size v ((pwords key).take (4 * k)) ∧ Below wo.heap.size wo wr) (fun _ i _ => m - (intOf i).toNat)
          case atStart => exact ⟨0, by omega, rfl, own_nil _ _, Below.refl _ _⟩
          case round =>
            obtain ⟨k, hk, rfl, hO, hB⟩ := hrel
            have hz := hB.size
            have HO2 := Lib.hid hO
            have HB := Lib.hid hB
            by_cases hkt : k < m
            · have HKT := Lib.hid hkt
              have hc : ∀ q, q < 4 → wr.cell? ⟨g, 4 * k + q, none⟩ = some (.int .u8 (bv (g8 (pwords key) (4 * k + q)))) := fun q hq => by
                have := HR.out (4 * k + q) (by rw [HWL.out]; omega)
                rw [Nat.zero_add] at this
                exact cell_below this hB hgs
              have c0 := hc 0 (by omega)
              have c1 := hc 1 (by omega)
              have c2 := hc 2 (by omega)
              have c3 := hc 3 (by omega)
              rw [Nat.add_zero] at c0
              have HT4 := Lib.hid (take4 (pwords key) k (by rw [HWL.out]; omega))
              generalize g8 (pwords key) (4 * k) = x0 at c0 HT4
              generalize g8 (pwords key) (4 * k + 1) = x1 at c1 HT4
              generalize g8 (pwords key) (4 * k + 2) = x2 at c2 HT4
              generalize g8 (pwords key) (4 * k + 3) = x3 at c3 HT4
              clear hc hO hB
              go_wp2
              refine wp_region_held (S := fun w9 => Below wo.heap.size wr w9) (by kernel_rfl) ?_
              show wpAnyH _ _ _ _ _ 24 _ _ wr.drew
              have hdr : Below wo.heap.size wr wr.drew := ⟨rfl, rfl, rfl, Nat.le_refl _, fun _ _ => rfl⟩
              refine wpAnyH_take (i := 0) rfl (by kernel_rfl) (by kernel_rfl) (by kernel_rfl) (fun _ _ _ h => h) (yields_val (by kernel_rfl) (u13) (fun w => by kernel_rfl)) hdr ?_
              refine wpAnyH_take (i := 1) rfl (by kernel_rfl) (by kernel_rfl) (by kernel_rfl) (fun _ _ _ h => h) (yields_val (by kernel_rfl) (.slice (some ⟨g, 0, none⟩) m cap) (fun w => by kernel_rfl)) hdr ?_
              refine wpAnyH_take (i := 2) rfl (by kernel_rfl) (by kernel_rfl) (by kernel_rfl) (fun _ _ _ h => h) (yields_val (by kernel_rfl) (.int .i64 k) (fun w => by kernel_rfl)) hdr ?_
              refine wpAnyH_take (i := 3) rfl (by kernel_rfl) (by kernel_rfl) (by kernel_rfl) (fun _ _ _ h => h) (yields_ix (by kernel_rfl) 208 _ _ rfl g (0) m cap (k) 4 ((k : Int)) (by kernel_rfl) (by kernel_rfl) (rfl) (by omega) (4 * k) (by omega) (by kernel_rfl) (fun w => by kernel_rfl)) hdr ?_
              refine wpAnyH_take (i := 4) rfl (by kernel_rfl) (by kernel_rfl) (by kernel_rfl) (fun _ _ _ h => h) (yields_ixa (by kernel_rfl) 204 _ _ rfl g (4 * k) (0) 1 ((0 : Int)) (by kernel_rfl) (by kernel_rfl) (rfl) (by decide +kernel) (4 * k) (by omega) (by kernel_rfl) (fun w => by kernel_rfl)) hdr ?_
              refine wpAnyH_take (i := 5) rfl (by kernel_rfl) (by kernel_rfl) (by kernel_rfl) (fun _ _ _ h => h) (yields_cell (by kernel_rfl) (.int .u8 (bv x0)) 5 _ rfl ⟨g, 4 * k, none⟩ (by kernel_rfl) (fun w h => load_u8 w _ _ h) (fun w9 h9 => cell_below c0 h9 hgs)) hdr ?_
              refine wpAnyH_take (i := 6) rfl (by kernel_rfl) (by kernel_rfl) (by kernel_rfl) (fun _ _ _ h => h) (yields_val (by kernel_rfl) (.slice (some ⟨g, 0, none⟩) m cap) (fun w => by kernel_rfl)) hdr ?_
              refine wpAnyH_take (i := 7) rfl (by kernel_rfl) (by kernel_rfl) (by kernel_rfl) (fun _ _ _ h => h) (yields_val (by kernel_rfl) (.int .i64 k) (fun w => by kernel_rfl)) hdr ?_
              refine wpAnyH_take (i := 8) rfl (by kernel_rfl) (by kernel_rfl) (by kernel_rfl) (fun _ _ _ h => h) (yields_ix (by kernel_rfl) 208 _ _ rfl g (0) m cap (k) 4 ((k : Int)) (by kernel_rfl) (by kernel_rfl) (rfl) (by omega) (4 * k) (by omega) (by kernel_rfl) (fun w => by kernel_rfl)) hdr ?_
              refine wpAnyH_take (i := 9) rfl (by kernel_rfl) (by kernel_rfl) (by kernel_rfl) (fun _ _ _ h => h) (yields_ixa (by kernel_rfl) 204 _ _ rfl g (4 * k) (1) 1 ((1 : Int)) (by kernel_rfl) (by kernel_rfl) (rfl) (by decide +kernel) (4 * k + 1) (by omega) (by kernel_rfl) (fun w => by kernel_rfl)) hdr ?_
              refine wpAnyH_take (i := 10) rfl (by kernel_rfl) (by kernel_rfl) (by kernel_rfl) (fun _ _ _ h => h) (yields_cell (by kernel_rfl) (.int .u8 (bv x1)) 5 _ rfl ⟨g, 4 * k + 1, none⟩ (by kernel_rfl) (fun w h => load_u8 w _ _ h) (fun w9 h9 => cell_below c1 h9 hgs)) hdr ?_
              refine wpAnyH_take (i := 11) rfl (by kernel_rfl) (by kernel_rfl) (by kernel_rfl) (fun _ _ _ h => h) (yields_val (by kernel_rfl) (.slice (some ⟨g, 0, none⟩) m cap) (fun w => by kernel_rfl)) hdr ?_
              refine wpAnyH_take (i := 12) rfl (by kernel_rfl) (by kernel_rfl) (by kernel_rfl) (fun _ _ _ h => h) (yields_val (by kernel_rfl) (.int .i64 k) (fun w => by kernel_rfl)) hdr ?_
              refine wpAnyH_take (i := 13) rfl (by kernel_rfl) (by kernel_rfl) (by kernel_rfl) (fun _ _ _ h => h) (yields_ix (by kernel_rfl) 208 _ _ rfl g (0) m cap (k) 4 ((k : Int)) (by kernel_rfl) (by kernel_rfl) (rfl) (by omega) (4 * k) (by omega) (by kernel_rfl) (fun w => by kernel_rfl)) hdr ?_
              refine wpAnyH_take (i := 14) rfl (by kernel_rfl) (by kernel_rfl) (by kernel_rfl) (fun _ _ _ h => h) (yields_ixa (by kernel_rfl) 204 _ _ rfl g (4 * k) (2) 1 ((2 : Int)) (by kernel_rfl) (by kernel_rfl) (rfl) (by decide +kernel) (4 * k + 2) (by omega) (by kernel_rfl) (fun w => by kernel_rfl)) hdr ?_
              refine wpAnyH_take (i := 15) rfl (by kernel_rfl) (by kernel_rfl) (by kernel_rfl) (fun _ _ _ h => h) (yields_cell (by kernel_rfl) (.int .u8 (bv x2)) 5 _ rfl ⟨g, 4 * k + 2, none⟩ (by kernel_rfl) (fun w h => load_u8 w _ _ h) (fun w9 h9 => cell_below c2 h9 hgs)) hdr ?_
              refine wpAnyH_take (i := 16) rfl (by kernel_rfl) (by kernel_rfl) (by kernel_rfl) (fun _ _ _ h => h) (yields_val (by kernel_rfl) (.slice (some ⟨g, 0, none⟩) m cap) (fun w => by kernel_rfl)) hdr ?_
              refine wpAnyH_take (i := 17) rfl (by kernel_rfl) (by kernel_rfl) (by kernel_rfl) (fun _ _ _ h => h) (yields_val (by kernel_rfl) (.int .i64 k) (fun w => by kernel_rfl)) hdr ?_
              refine wpAnyH_take (i := 18) rfl (by kernel_rfl) (by kernel_rfl) (by kernel_rfl) (fun _ _ _ h => h) (yields_ix (by kernel_rfl) 208 _ _ rfl g (0) m cap (k) 4 ((k : Int)) (by kernel_rfl) (by kernel_rfl) (rfl) (by omega) (4 * k) (by omega) (by kernel_rfl) (fun w => by kernel_rfl)) hdr ?_
              refine wpAnyH_take (i := 19) rfl (by kernel_rfl) (by kernel_rfl) (by kernel_rfl) (fun _ _ _ h => h) (yields_ixa (by kernel_rfl) 204 _ _ rfl g (4 * k) (3) 1 ((3 : Int)) (by kernel_rfl) (by kernel_rfl) (rfl) (by decide +kernel) (4 * k + 3) (by omega) (by kernel_rfl) (fun w => by kernel_rfl)) hdr ?_
              refine wpAnyH_take (i := 20) rfl (by kernel_rfl) (by kernel_rfl) (by kernel_rfl) (fun _ _ _ h => h) (yields_cell (by kernel_rfl) (.int .u8 (bv x3)) 5 _ rfl ⟨g, 4 * k + 3, none⟩ (by kernel_rfl) (fun w h => load_u8 w _ _ h) (fun w9 h9 => cell_below c3 h9 hgs)) hdr ?_
              refine wpAnyH_all (rs := [21]) (by kernel_rfl) (by decide) ?_
              intro i0 hi0
              obtain rfl : i0 = 21 := by simpa using hi0
              refine wpOp_run rfl (by kernel_rfl) (.slice (some ⟨wr.heap.size, 0, none⟩) 4 4) (wr.drew.alloc (.cells (Bs [x0, x1, x2, x3]) u8t)) (by kernel_rfl) ?_
              have hS1 : Below wo.heap.size wr (wr.drew.alloc (.cells (Bs [x0, x1, x2, x3]) u8t)) := below_alloc hdr hz _
              refine ⟨hS1, ?_⟩
              refine wpAnyH_all (rs := [22]) (by kernel_rfl) (by decide) ?_
              intro i1 hi1
              obtain rfl : i1 = 22 := by simpa using hi1
              refine wpOp_append rfl (by kernel_rfl) hu_sl hu_u8 _ _ rfl wo.heap.size u13 ((pwords key).take (4 * k)) (by kernel_rfl) (HO2.out.drewN 1 |>.alloc _) ⟨wr.heap.size, 0, none⟩ 4 4 [x0, x1, x2, x3] (by kernel_rfl) ⟨_, 4, rfl, fun h => (by cases h), Nat.le_refl _, by decide, fun _ => ⟨wr.heap.size, 0, rfl, rd_bs wr.drew _ [x0, x1, x2, x3]⟩⟩ (by rw [List.length_take]; simp; omega) (by simp; omega) ?_
              intro v7 w7 hO7 hG7
              have hdr : Below wo.heap.size wr w7 := below_own hS1 (by simp; omega) hG7 (fun q hq => (HO2.out.lt q hq).1)
              refine ⟨hdr, ?_⟩
              refine wpAnyH_take (i := 23) rfl (by kernel_rfl) (by kernel_rfl) (by kernel_rfl) (fun _ _ _ h => h) (yields_val (by kernel_rfl) (v7) (fun w => by kernel_rfl)) hdr ?_
              refine wpAnyH_done (by kernel_rfl) ?_ _
              simp only [Act.put, List.getElem_toArray, List.getElem_cons_succ, List.getElem_cons_zero, List.setIfInBounds_toArray, List.set_cons_succ, List.set_cons_zero]
              clear c0 c1 c2 c3
              go_wp2
              go_roundw
              case rel => exact ⟨k + 1, HKT.out, by go_num, by rw [HT4.out]; exact hO7, below_more HB.out hdr (Nat.le_refl _)⟩
              case measure => have := HKT.out; simp [intOf]; omega
            · have hF : (pwords key).take (4 * k) = pwords key := List.take_of_length_le (by rw [HWL.out]; omega)
              have HF := Lib.hid hF
              clear hO hB hF
              go_wp2
              go_ret
              exact ⟨_, rfl, by have := HO2.out; rw [HF.out] at this; rw [HN.out]; exact this.lower hsz, by rw [HN.out]; exact below_more HM.out HB.out hsz⟩
end Go.Proofs.YtbbfjlnkhenbiaaGreatDoor
