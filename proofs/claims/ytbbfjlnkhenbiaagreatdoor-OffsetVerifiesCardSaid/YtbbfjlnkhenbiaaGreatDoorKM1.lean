/- Texts that aren't whole blocks; law06.awake. -/
import Derived.Test.YtbbfjlnkhenbiaaGreatDoorKM4
import Derived.Test.YtbbfjlnkhenbiaaGreatDoorKB7
import Derived.Test.YtbbfjlnkhenbiaaGreatDoorKB5
import Derived.Test.YtbbfjlnkhenbiaaGreatDoorKB4
import Derived.Test.YtbbfjlnkhenbiaaGreatDoorKM0
set_option linter.unusedVariables false
set_option linter.unusedSimpArgs false
namespace Go.Proofs.YtbbfjlnkhenbiaaGreatDoor
open Go.RowKit Lk
set_option maxHeartbeats 800000 in
set_option maxRecDepth 100000 in
theorem each_bad16 (q vt fv : Value) (B : Nat) (key text : List UInt8) (w : World) (h : Cip w B q 1 key) (hs : SlB w vt text) (ht : text.length % 16 ≠ 0) :
    Calls Tryz.prog 43 #[q, vt, fv] w fun e w' => e = .returned (.tuple #[.slice none 0 0, .iface 91 (.int .i64 2)]) ∧ w' = w := by
  have HS := Lib.hid (Size_any q 1 B key w h)
  obtain ⟨L, hL⟩ : ∃ L, text.length = L := ⟨_, rfl⟩
  obtain ⟨A, c, rfl, _, b1, b2, _⟩ := hs
  rw [hL] at ht b1 ⊢
  have hne : (((L : Int) % 16) != 0) = true := by simp; omega
  clear h hL ht
  go_enter Tryz.func43, Tryz.ntmps43
  go_wp2_with (go_at_call 46; refine HS.out.mono ?_; rintro e w ⟨rfl, rfl⟩; rw [show psize 1 = 16 from rfl])
  go_ret2
  exact ⟨rfl, rfl⟩
set_option maxHeartbeats 800000 in
set_option maxRecDepth 100000 in
theorem Alone_bad16 (q vt : Value) (B : Nat) (key text : List UInt8) (back : Bool) (w : World) (h : Cip w B q 1 key) (hB : B ≤ w.heap.size) (hs : SlB w vt text) (ht : text.length % 16 ≠ 0) :
    Calls Tryz.prog 12 #[q, vt, .bool back] w fun e w' => e = .returned (.tuple #[.slice none 0 0, .iface 91 (.int .i64 2)]) ∧ Below w.heap.size w w' := by
  obtain ⟨N, hN⟩ : ∃ N, w.heap.size = N := ⟨_, rfl⟩
  have HN := Lib.hid hN
  have HC := Lib.hid h
  have HS := Lib.hid hs
  have hq : ∃ gq, q = .pointer (some ⟨gq, 0, none⟩) := by obtain ⟨gq, _, _, e, _⟩ := h; exact ⟨gq, e⟩
  obtain ⟨gq, rfl⟩ := hq
  obtain ⟨A, c, rfl, _, b1, b2, _⟩ := id hs
  clear h hs
  go_enter Tryz.func12, Tryz.ntmps12
  go_wp2_with (first
    | ((with_reducible show wpList _ _ _ _ _ w); refine box_one (w := w) rfl 25 _ rfl (.pointer (some ⟨gq, 0, none⟩)) rfl rfl ?_; intro w0 h10 hG0 hz0; rw [hN] at h10 hz0 ⊢)
    | ((with_reducible show wpList _ _ _ _ _ w0); refine box_one (w := w0) rfl 4 _ rfl (.bool back) rfl rfl ?_; intro w1 h21 hG1 hz1; rw [hz0] at h21 hz1 ⊢; have hL1 : Below N w w1 := (below_none (below_none (Below.refl N w) (by omega) hG0) (by omega) hG1); have h11 := h10.old hG1 (by simp); have c11 := h11.cell)
    | (go_at_call 43; refine (each_bad16 _ _ _ B key text w1 (HC.out.below hL1 (by rw [← HN.out]; exact hB)) (HS.out.below (by rw [HN.out]; exact hL1)) ht).mono ?_; rintro e w1 ⟨rfl, rfl⟩))
  go_ret2
  exact ⟨rfl, by rw [HN.out]; exact hL1⟩
section
open Go
variable {P : Program} {ops : Array Oper} {Q : Exit → Act → World → Prop} {K : Act → World → Prop} {i : Nat} {o : Oper} {a : Act} {w : World}
theorem wpOp_make (hi : ops[i]? = some o) (hw : Region.wanted o (yielded ops a.tmps) = true) (t e : TypeId) (l c : Operand) (ho : o.op = .makeSlice t l c) (n : Nat) (hu : P.underlying t = some (.slice e)) (hinfo : (P.info? e).map (fun i => (i.zero, i.size, i.bytes)) = some (some (.int .u8 0), 1, 1))
    (hl : a.eval l = .int .i64 n) (hc : a.eval c = .int .i64 n) (hn : n ≤ 1099511627776)
    (hk : ∀ w1, Blk w1 w.heap.size e (List.replicate n 0) → w.grownBy w1 none → w1.heap.size = w.heap.size + 1 → K (a.put o.dst (.slice (some ⟨w.heap.size, 0, none⟩) n n)) w1) : wpOp P ops Q i K a w := by
  unfold Go.wpOp
  simp only [hi, hw, if_true]
  refine .inl ?_
  obtain ⟨ti, hti, hz, hs, hb⟩ := info_parts hinfo
  have hr := run_make (P := P) w t e ti _ hu hti hz .i64 .i64 (n : Int) (n : Int) (by omega) (by omega) (by rw [hb]; omega) (by omega)
  rw [hs, Nat.mul_one, Int.toNat_natCast] at hr
  have e0 : (Value.int IntKind.u8 0).cells = #[.int .u8 0] := rfl
  rw [e0, made_zero] at hr
  unfold Oper.wp execOp
  simp only [ho, hl, hc, Sem.run_bind, hr, Result.andThen_ok]
  exact hk _ (heap_alloc_new w _) (grown_alloc (grown_refl w none) _) (by show (w.heap.push _).size = _; simp)
theorem wpOp_enterX (hi : ops[i]? = some o) (hw : Region.wanted o (yielded ops a.tmps) = true) (f : FuncId) (args : Array Value) (G : Value → World → Prop) (h : (execOp a.eval o).run P w = .ok (.enter f args) w)
    (hc : Calls P f args w fun e w' => ∃ v, e = .returned v ∧ G v w') (hk : ∀ v w', G v w' → K (a.put o.dst v) w') : wpOp P ops Q i K a w := by
  unfold Go.wpOp
  simp only [hi, hw, if_true]
  refine .inl ?_
  unfold Oper.wp
  rw [h]
  refine hc.mono ?_
  rintro e w' ⟨v, rfl, hG⟩
  exact hk v w' hG
end
def zz16 : List UInt8 := List.replicate 16 0
def zz32 : List UInt8 := List.replicate 32 0
theorem zx1 : pxor (blkAt zz32 16 0) zz16 = ezk := by decide
theorem zx2 (y : List UInt8) (h : y.length = 16) : pxor (blkAt zz32 16 1) y = y := by
  have e : blkAt zz32 16 1 = List.replicate 16 0 := by decide
  rw [e, pxor_comm _ _ (by rw [h]; rfl)]
  have := pxor_zero y 16
  exact this
theorem ez_ch1 : (chTo 1 zz16 zz16 zz32 1).2 = pEnc ezk ezk := by
  show pdo 1 zz16 (pxor (blkAt zz32 16 0) zz16) false = _
  rw [zx1]; rfl
theorem ez_ch2 : (chTo 1 zz16 zz16 zz32 2).2 = pEnc ezk (pEnc ezk ezk) := by
  show pdo 1 zz16 (pxor (blkAt zz32 16 1) (chTo 1 zz16 zz16 zz32 1).2) false = _
  rw [ez_ch1, zx2 _ (pEnc_len _ _ rfl)]; rfl
theorem ez_all : (chTo 1 (List.replicate 16 0) zz16 zz32 2).1 = pEnc ezk ezk ++ pEnc ezk (pEnc ezk ezk) := by
  show (([] ++ (chTo 1 zz16 zz16 zz32 1).2) ++ (chTo 1 zz16 zz16 zz32 2).2) = _
  rw [ez_ch1, ez_ch2]; rfl
theorem ez_fst : (chTo 1 (List.replicate 16 0) zz16 zz32 2).1.take 16 = pEnc ezk ezk := by
  rw [ez_all]; exact List.take_left' (pEnc_len _ _ rfl)
theorem ez_snd : (chTo 1 (List.replicate 16 0) zz16 zz32 2).1.drop 16 = pEnc ezk (pEnc ezk ezk) := by
  rw [ez_all]; exact List.drop_left' (pEnc_len _ _ rfl)
theorem ez_alone : aloneTo 1 (List.replicate 16 0) (List.replicate 16 0) false 1 = pEnc ezk ezk := by
  show [] ++ pdo 1 ezk (blkAt ezk 16 0) false = _
  rw [show blkAt ezk 16 0 = ezk by decide]; rfl
theorem ez_ne : (pEnc ezk (pEnc ezk ezk) == pEnc ezk ezk) = false := by
  have e0 := ez0
  change pEnc ezk ezk = _ at e0
  rw [e0, ez1]; decide
set_option maxHeartbeats 6400000 in
set_option maxRecDepth 100000 in
theorem awake06 (w : World) (hE : Et w) : Calls Tryz.prog 9 #[] w fun e w' => e = .returned (.bool true) ∧ Below w.heap.size w w' := by
  obtain ⟨N, hN⟩ : ∃ N, w.heap.size = N := ⟨_, rfl⟩
  have HN := Lib.hid hN
  have hM0 : Below N w w := Below.refl _ _
  have hs0 : N ≤ w.heap.size := by omega
  have E_0 := Lib.hid (hE)
  clear hE
  go_enter Tryz.func9, Tryz.ntmps9
  go_wp2_with (refine make_new (w := w) rfl 22 5 _ _ rfl 16 (by kernel_rfl) (by kernel_rfl) .i64 .i64 rfl rfl (by omega) ?_; intro w1 hB hG hz; have hL : Below w.heap.size w w1 := (below_none (Below.refl _ _) (Nat.le_refl _) hG); obtain ⟨gK, eg⟩ : ∃ g, w.heap.size = g := ⟨_, rfl⟩; have hgK : N ≤ gK := (by omega); have hB2 : Blk w1 gK u8t (List.replicate 16 0) := (by rw [← eg]; exact hB); have hL2 := hL; rw [eg] at hL2 ⊢; clear hB hG hz)
  have hM1 : Below N w w1 := below_more hM0 hL hs0
  have hs1 : N ≤ w1.heap.size := Nat.le_trans hs0 (hL).size
  have E_1 := Lib.hid (E_0.out.below hL)
  clear E_0
  clear hM0 hs0
  have K_1 := Lib.hid (hB2)
  clear hL hB2 hL2 eg
  go_wp2_with fail
  refine (New_aes _ (List.replicate 16 0) w1 (by decide) (K_1.out.slB (n := 16) rfl (by decide))).mono ?_
  rintro e w2 ⟨q, rfl, hC, hL⟩
  obtain ⟨gq, egq⟩ : ∃ gq, q = .pointer (some ⟨gq, 0, none⟩) := by obtain ⟨gq, _, _, e, _⟩ := hC; exact ⟨gq, e⟩
  subst egq
  have hM2 : Below N w w2 := below_more hM1 hL hs1
  have hs2 : N ≤ w2.heap.size := Nat.le_trans hs1 (hL).size
  have E_2 := Lib.hid (E_1.out.below hL)
  clear E_1
  have K_2 := Lib.hid (K_1.out.under hL)
  clear K_1
  clear hM1 hs1
  have C_2 := Lib.hid (hC)
  clear hL hC
  go_wp2_with fail
  obtain ⟨M, eM⟩ : ∃ M, w2.heap.size = M := ⟨_, rfl⟩
  have hdr : Below M w2 w2.drew := by rw [← eM]; exact below_drew _
  have hds : w2.drew.heap.size = M := eM
  have HCH := Lib.hid (fun (w3 : World) (v1 v2 : Value) (hL : Below w2.heap.size w2 w3) (h1 : SlB w3 v1 zz16) (h2 : SlB w3 v2 zz32) => Chained1 (.pointer (some ⟨gq, 0, none⟩)) v2 v1 w2.heap.size 2 (List.replicate 16 0) zz16 zz32 w3 (C_2.out.below hL (Nat.le_refl _)) hL.size (by decide) h2 (by decide) (by decide) (by decide) h1 (by decide))
  refine wp_region_held (S := fun w9 => Below M w2 w9) (by kernel_rfl) ?_
  show wpAnyH _ _ _ _ _ 9 _ _ w2.drew
  obtain ⟨u0, eu0⟩ : ∃ u0, w2.drew = u0 := ⟨_, rfl⟩
  rw [eu0] at hdr hds ⊢
  refine wpAnyH_take (i := 0) rfl (by kernel_rfl) (by kernel_rfl) (by kernel_rfl) (fun _ _ _ h => h) (yields_val (by kernel_rfl) ((.pointer (some ⟨gq, 0, none⟩))) (fun w => by kernel_rfl)) hdr ?_
  refine wpAnyH_all (rs := [1, 2]) (by kernel_rfl) (by decide) ?_
  intro i hi
  simp only [List.mem_cons, List.not_mem_nil, or_false] at hi
  rcases hi with rfl | rfl
  · refine wpOp_make rfl (by kernel_rfl) 22 5 _ _ rfl 16 (by kernel_rfl) (by kernel_rfl) (by kernel_rfl) (by kernel_rfl) (by decide) ?_
    intro u1 hB1 hG1 hz1
    have hS1 : Below M w2 u1 := below_none hdr (by omega) hG1
    refine ⟨hS1, ?_⟩
    refine wpAnyH_all (rs := [2]) (by kernel_rfl) (by decide) ?_
    intro i2 hi2
    obtain rfl : i2 = 2 := by simpa using hi2
    refine wpOp_make rfl (by kernel_rfl) 22 5 _ _ rfl 32 (by kernel_rfl) (by kernel_rfl) (by kernel_rfl) (by kernel_rfl) (by decide) ?_
    intro u2 hB2 hG2 hz2
    have hS2 : Below M w2 u2 := below_none hS1 (by omega) hG2
    refine ⟨hS2, ?_⟩
    have hB1b := hB1.old hG2 (by simp)
    refine wpAnyH_all (rs := [3]) (by kernel_rfl) (by decide) ?_
    intro i3 hi3
    obtain rfl : i3 = 3 := by simpa using hi3
    refine wpOp_enterX rfl (by kernel_rfl) 13 #[.pointer (some ⟨gq, 0, none⟩), .slice (some ⟨u0.heap.size, 0, none⟩) 16 16, .slice (some ⟨u1.heap.size, 0, none⟩) 32 32, .bool false] (fun v w9 => ∃ v3, v = .tuple #[v3, .nilIface] ∧ Own w9 u2.heap.size v3 (chTo 1 (List.replicate 16 0) zz16 zz32 2).1 ∧ Below u2.heap.size u2 w9) (by kernel_rfl) ((HCH.out u2 _ _ (by rw [eM]; exact hS2) (hB1b.slB (n := 16) rfl (by decide)) (hB2.slB (n := 32) rfl (by decide))).mono fun e w9 ⟨v3, q1, q2, q3⟩ => ⟨_, q1, v3, rfl, q2, q3⟩) ?_
    rintro _ w3 ⟨v3, rfl, hO, hLx⟩
    have hS3 : Below M w2 w3 := below_more hS2 hLx (by omega)
    refine ⟨hS3, ?_⟩
    obtain ⟨A3, c3, ev3, hc3⟩ := hO.slB.formc (L := 32) (chTo_len 1 _ _ _ 2 (.inl rfl))
    subst ev3
    refine wpAnyH_take (i := 4) rfl (by kernel_rfl) (by kernel_rfl) (by kernel_rfl) (fun _ _ _ h => h) (yields_val (by kernel_rfl) ((.tuple #[.slice A3 32 c3, .nilIface])) (fun w => by kernel_rfl)) hS3 ?_
    refine wpAnyH_take (i := 5) rfl (by kernel_rfl) (by kernel_rfl) (by kernel_rfl) (fun _ _ _ h => h) (yields_val (by kernel_rfl) ((.slice A3 32 c3)) (fun w => by kernel_rfl)) hS3 ?_
    refine wpAnyH_take (i := 6) rfl (by kernel_rfl) (by kernel_rfl) (by kernel_rfl) (fun _ _ _ h => h) (yields_val (by kernel_rfl) (.nilIface) (fun w => by kernel_rfl)) hS3 ?_
    refine wpAnyH_take (i := 7) rfl (by kernel_rfl) (by kernel_rfl) (by kernel_rfl) (fun _ _ _ h => h) (yields_val (by kernel_rfl) ((.slice A3 32 c3)) (fun w => by kernel_rfl)) hS3 ?_
    refine wpAnyH_take (i := 8) rfl (by kernel_rfl) (by kernel_rfl) (by kernel_rfl) (fun _ _ _ h => h) (yields_val (by kernel_rfl) (.nilIface) (fun w => by kernel_rfl)) hS3 ?_
    refine wpAnyH_done (by kernel_rfl) ?_ _
    obtain ⟨ga, ega⟩ : ∃ ga, u0.heap.size = ga := ⟨_, rfl⟩
    obtain ⟨gb, egb⟩ : ∃ gb, u1.heap.size = gb := ⟨_, rfl⟩
    rw [ega, egb]
    simp only [Act.put, List.setIfInBounds_toArray, List.set_cons_succ, List.set_cons_zero]
    have hL : Below w2.heap.size w2 w3 := by rw [eM]; exact hS3
    have hOx : Own w3 w2.heap.size (.slice A3 32 c3) (chTo 1 (List.replicate 16 0) zz16 zz32 2).1 := hO.lower (by omega)
    clear hO hLx hS1 hS2 hS3 hB1 hB2 hB1b hG1 hG2 hdr hz1 hz2 ega egb hds
    have hM3 : Below N w w3 := below_more hM2 hL hs2
    have hs3 : N ≤ w3.heap.size := Nat.le_trans hs2 (hL).size
    have E_3 := Lib.hid (E_2.out.below hL)
    clear E_2
    have K_3 := Lib.hid (K_2.out.under hL)
    clear K_2
    have C_3 := Lib.hid (C_2.out.next hL)
    clear C_2
    clear hM2 hs2
    have X_3 := Lib.hid (hOx)
    clear hL hOx eM eu0 HCH
    go_wp2_with (refine make_new (w := w3) rfl 22 5 _ _ rfl 16 (by kernel_rfl) (by kernel_rfl) .i64 .i64 rfl rfl (by omega) ?_; intro w4 hB hG hz; have hL : Below w3.heap.size w3 w4 := (below_none (Below.refl _ _) (Nat.le_refl _) hG); obtain ⟨gY, eg⟩ : ∃ g, w3.heap.size = g := ⟨_, rfl⟩; have hgY : N ≤ gY := (by omega); have hB2 : Blk w4 gY u8t (List.replicate 16 0) := (by rw [← eg]; exact hB); have hL2 := hL; rw [eg] at hL2 ⊢; clear hB hG hz)
    have hM4 : Below N w w4 := below_more hM3 hL hs3
    have hs4 : N ≤ w4.heap.size := Nat.le_trans hs3 (hL).size
    have E_4 := Lib.hid (E_3.out.below hL)
    clear E_3
    have K_4 := Lib.hid (K_3.out.under hL)
    clear K_3
    have C_4 := Lib.hid (C_3.out.next hL)
    clear C_3
    have X_4 := Lib.hid (X_3.out.under hL)
    clear X_3
    clear hM3 hs3
    have Y_4 := Lib.hid (hB2)
    clear hL hB2 hL2 eg
    go_wp2_with fail
    refine (Alone16 _ _ w4.heap.size 1 (List.replicate 16 0) (List.replicate 16 0) false w4 C_4.out (Nat.le_refl _) (by decide) (Y_4.out.slB (n := 16) rfl (by decide)) (by decide) (by decide)).mono ?_
    rintro e w5 ⟨v4, rfl, hO, hL⟩
    obtain ⟨A4, c4, ev4, hc4⟩ := hO.slB.formc (L := 16) (outTo_len _ 16 (fun _ => pdo_len 1 _ _ _ (.inl rfl)) 1)
    subst ev4
    have hM5 : Below N w w5 := below_more hM4 hL hs4
    have hs5 : N ≤ w5.heap.size := Nat.le_trans hs4 (hL).size
    have E_5 := Lib.hid (E_4.out.below hL)
    clear E_4
    have K_5 := Lib.hid (K_4.out.under hL)
    clear K_4
    have C_5 := Lib.hid (C_4.out.next hL)
    clear C_4
    have X_5 := Lib.hid (X_4.out.under hL)
    clear X_4
    have Y_5 := Lib.hid (Y_4.out.under hL)
    clear Y_4
    clear hM4 hs4
    have Z_5 := Lib.hid (hO)
    clear hL hO
    go_wp2_with (refine make_new (w := w5) rfl 22 5 _ _ rfl 15 (by kernel_rfl) (by kernel_rfl) .i64 .i64 rfl rfl (by omega) ?_; intro w6 hB hG hz; have hL : Below w5.heap.size w5 w6 := (below_none (Below.refl _ _) (Nat.le_refl _) hG); obtain ⟨gV, eg⟩ : ∃ g, w5.heap.size = g := ⟨_, rfl⟩; have hgV : N ≤ gV := (by omega); have hB2 : Blk w6 gV u8t (List.replicate 15 0) := (by rw [← eg]; exact hB); have hL2 := hL; rw [eg] at hL2 ⊢; clear hB hG hz)
    have hM6 : Below N w w6 := below_more hM5 hL hs5
    have hs6 : N ≤ w6.heap.size := Nat.le_trans hs5 (hL).size
    have E_6 := Lib.hid (E_5.out.below hL)
    clear E_5
    have K_6 := Lib.hid (K_5.out.under hL)
    clear K_5
    have C_6 := Lib.hid (C_5.out.next hL)
    clear C_5
    have X_6 := Lib.hid (X_5.out.under hL)
    clear X_5
    have Y_6 := Lib.hid (Y_5.out.under hL)
    clear Y_5
    have Z_6 := Lib.hid (Z_5.out.under hL)
    clear Z_5
    clear hM5 hs5
    have V_6 := Lib.hid (hB2)
    clear hL hB2 hL2 eg
    go_wp2_with fail
    refine (Alone_bad16 _ _ w6.heap.size (List.replicate 16 0) (List.replicate 15 0) false w6 C_6.out (Nat.le_refl _) (V_6.out.slB (n := 15) rfl (by decide)) (by decide)).mono ?_
    rintro e w7 ⟨rfl, hL⟩
    have hM7 : Below N w w7 := below_more hM6 hL hs6
    have hs7 : N ≤ w7.heap.size := Nat.le_trans hs6 (hL).size
    have E_7 := Lib.hid (E_6.out.below hL)
    clear E_6
    have K_7 := Lib.hid (K_6.out.under hL)
    clear K_6
    have C_7 := Lib.hid (C_6.out.next hL)
    clear C_6
    have X_7 := Lib.hid (X_6.out.under hL)
    clear X_6
    have Y_7 := Lib.hid (Y_6.out.under hL)
    clear Y_6
    have Z_7 := Lib.hid (Z_6.out.under hL)
    clear Z_6
    have V_7 := Lib.hid (V_6.out.under hL)
    clear V_6
    clear hM6 hs6
    clear hL
    have h32 : (chTo 1 (List.replicate 16 0) zz16 zz32 2).1.length = 32 := chTo_len 1 _ _ _ 2 (.inl rfl)
    have HX := Lib.hid X_7.out.slB
    have HX1 := Lib.hid (show SlB w7 (.slice A3 16 c3) (pEnc ezk ezk) from by have h := HX.out.take (n := 16) (by rw [h32]; decide); rw [ez_fst] at h; exact h)
    have hform := HX.out
    obtain ⟨A3g, c3g, e3, n1, n2, n3, n4⟩ := hform
    obtain ⟨g3, o3, e4, _⟩ := n4 (by rw [h32] at n2; omega)
    rw [h32] at e3 n2
    cases e3
    subst e4
    have HX2 := Lib.hid (show SlB w7 (.slice (some ⟨g3, o3 + 16, none⟩) 16 (c3 - 16)) (pEnc ezk (pEnc ezk ezk)) from by have h := HX.out.drop (k := 16) (by rw [h32]; decide); rw [ez_snd] at h; exact h)
    have HZ := Lib.hid (show SlB w7 (.slice A4 16 c4) (pEnc ezk ezk) from by have h := Z_7.out.slB; rw [ez_alone] at h; exact h)
    clear HX n1 n3 n4 h32
    have i3 : ((c3 : Int)) ≤ 9223372036854775807 := by have := HX1.out; obtain ⟨_, _, q, _, _, q3, _⟩ := this; cases q; unfold maxLen at q3; omega
    have X1_7 := HX1
    have X2_7 := HX2
    have Z1_7 := HZ
    clear HX1 HX2 HZ
    go_wp2_with fail
    refine (Same_any _ _ (pEnc ezk ezk) (pEnc ezk ezk) w7 X1_7.out Z1_7.out (by rw [pEnc_len _ _ rfl]; decide)).mono ?_
    rintro e w8 ⟨rfl, hD⟩
    rw [beq_self_eq_true]
    have hM8 : Below N w w8 := below_more hM7 hD.below0 hs7
    have hs8 : N ≤ w8.heap.size := Nat.le_trans hs7 (hD.below0).size
    have E_8 := Lib.hid (E_7.out.below hD.below0)
    clear E_7
    have K_8 := Lib.hid (K_7.out.under hD.below0)
    clear K_7
    have C_8 := Lib.hid (C_7.out.next hD.below0)
    clear C_7
    have X_8 := Lib.hid (X_7.out.under hD.below0)
    clear X_7
    have Y_8 := Lib.hid (Y_7.out.under hD.below0)
    clear Y_7
    have Z_8 := Lib.hid (Z_7.out.under hD.below0)
    clear Z_7
    have V_8 := Lib.hid (V_7.out.under hD.below0)
    clear V_7
    have X1_8 := Lib.hid (X1_7.out.below hD.below0)
    clear X1_7
    have X2_8 := Lib.hid (X2_7.out.below hD.below0)
    clear X2_7
    have Z1_8 := Lib.hid (Z1_7.out.below hD.below0)
    clear Z1_7
    clear hM7 hs7
    clear hD
    go_wp2_with fail
    refine (Same_any _ _ (pEnc ezk (pEnc ezk ezk)) (pEnc ezk ezk) w8 X2_8.out Z1_8.out (by rw [pEnc_len _ _ (pEnc_len _ _ rfl)]; decide)).mono ?_
    rintro e w9 ⟨rfl, hD⟩
    rw [ez_ne]
    have hM9 : Below N w w9 := below_more hM8 hD.below0 hs8
    have hs9 : N ≤ w9.heap.size := Nat.le_trans hs8 (hD.below0).size
    have E_9 := Lib.hid (E_8.out.below hD.below0)
    clear E_8
    have K_9 := Lib.hid (K_8.out.under hD.below0)
    clear K_8
    have C_9 := Lib.hid (C_8.out.next hD.below0)
    clear C_8
    have X_9 := Lib.hid (X_8.out.under hD.below0)
    clear X_8
    have Y_9 := Lib.hid (Y_8.out.under hD.below0)
    clear Y_8
    have Z_9 := Lib.hid (Z_8.out.under hD.below0)
    clear Z_8
    have V_9 := Lib.hid (V_8.out.under hD.below0)
    clear V_8
    have X1_9 := Lib.hid (X1_8.out.below hD.below0)
    clear X1_8
    have X2_9 := Lib.hid (X2_8.out.below hD.below0)
    clear X2_8
    have Z1_9 := Lib.hid (Z1_8.out.below hD.below0)
    clear Z1_8
    clear hM8 hs8
    clear hD
    go_wp2_with fail
    refine (Code_any [] 2 _ w9 E_9.out rfl).mono ?_
    rintro e w10 ⟨rfl, hL⟩
    have hM10 : Below N w w10 := below_more hM9 hL hs9
    have hs10 : N ≤ w10.heap.size := Nat.le_trans hs9 (hL).size
    have E_10 := Lib.hid (E_9.out.below hL)
    clear E_9
    have K_10 := Lib.hid (K_9.out.under hL)
    clear K_9
    have C_10 := Lib.hid (C_9.out.next hL)
    clear C_9
    have X_10 := Lib.hid (X_9.out.under hL)
    clear X_9
    have Y_10 := Lib.hid (Y_9.out.under hL)
    clear Y_9
    have Z_10 := Lib.hid (Z_9.out.under hL)
    clear Z_9
    have V_10 := Lib.hid (V_9.out.under hL)
    clear V_9
    have X1_10 := Lib.hid (X1_9.out.below hL)
    clear X1_9
    have X2_10 := Lib.hid (X2_9.out.below hL)
    clear X2_9
    have Z1_10 := Lib.hid (Z1_9.out.below hL)
    clear Z1_9
    clear hM9 hs9
    clear hL
    go_wp2_with fail
    go_ret
    exact ⟨rfl, by rw [HN.out]; exact hM10⟩
  · refine wpOp_make rfl (by kernel_rfl) 22 5 _ _ rfl 32 (by kernel_rfl) (by kernel_rfl) (by kernel_rfl) (by kernel_rfl) (by decide) ?_
    intro u1 hB1 hG1 hz1
    have hS1 : Below M w2 u1 := below_none hdr (by omega) hG1
    refine ⟨hS1, ?_⟩
    refine wpAnyH_all (rs := [1]) (by kernel_rfl) (by decide) ?_
    intro i2 hi2
    obtain rfl : i2 = 1 := by simpa using hi2
    refine wpOp_make rfl (by kernel_rfl) 22 5 _ _ rfl 16 (by kernel_rfl) (by kernel_rfl) (by kernel_rfl) (by kernel_rfl) (by decide) ?_
    intro u2 hB2 hG2 hz2
    have hS2 : Below M w2 u2 := below_none hS1 (by omega) hG2
    refine ⟨hS2, ?_⟩
    have hB1b := hB1.old hG2 (by simp)
    refine wpAnyH_all (rs := [3]) (by kernel_rfl) (by decide) ?_
    intro i3 hi3
    obtain rfl : i3 = 3 := by simpa using hi3
    refine wpOp_enterX rfl (by kernel_rfl) 13 #[.pointer (some ⟨gq, 0, none⟩), .slice (some ⟨u1.heap.size, 0, none⟩) 16 16, .slice (some ⟨u0.heap.size, 0, none⟩) 32 32, .bool false] (fun v w9 => ∃ v3, v = .tuple #[v3, .nilIface] ∧ Own w9 u2.heap.size v3 (chTo 1 (List.replicate 16 0) zz16 zz32 2).1 ∧ Below u2.heap.size u2 w9) (by kernel_rfl) ((HCH.out u2 _ _ (by rw [eM]; exact hS2) (hB2.slB (n := 16) rfl (by decide)) (hB1b.slB (n := 32) rfl (by decide))).mono fun e w9 ⟨v3, q1, q2, q3⟩ => ⟨_, q1, v3, rfl, q2, q3⟩) ?_
    rintro _ w3 ⟨v3, rfl, hO, hLx⟩
    have hS3 : Below M w2 w3 := below_more hS2 hLx (by omega)
    refine ⟨hS3, ?_⟩
    obtain ⟨A3, c3, ev3, hc3⟩ := hO.slB.formc (L := 32) (chTo_len 1 _ _ _ 2 (.inl rfl))
    subst ev3
    refine wpAnyH_take (i := 4) rfl (by kernel_rfl) (by kernel_rfl) (by kernel_rfl) (fun _ _ _ h => h) (yields_val (by kernel_rfl) ((.tuple #[.slice A3 32 c3, .nilIface])) (fun w => by kernel_rfl)) hS3 ?_
    refine wpAnyH_take (i := 5) rfl (by kernel_rfl) (by kernel_rfl) (by kernel_rfl) (fun _ _ _ h => h) (yields_val (by kernel_rfl) ((.slice A3 32 c3)) (fun w => by kernel_rfl)) hS3 ?_
    refine wpAnyH_take (i := 6) rfl (by kernel_rfl) (by kernel_rfl) (by kernel_rfl) (fun _ _ _ h => h) (yields_val (by kernel_rfl) (.nilIface) (fun w => by kernel_rfl)) hS3 ?_
    refine wpAnyH_take (i := 7) rfl (by kernel_rfl) (by kernel_rfl) (by kernel_rfl) (fun _ _ _ h => h) (yields_val (by kernel_rfl) ((.slice A3 32 c3)) (fun w => by kernel_rfl)) hS3 ?_
    refine wpAnyH_take (i := 8) rfl (by kernel_rfl) (by kernel_rfl) (by kernel_rfl) (fun _ _ _ h => h) (yields_val (by kernel_rfl) (.nilIface) (fun w => by kernel_rfl)) hS3 ?_
    refine wpAnyH_done (by kernel_rfl) ?_ _
    obtain ⟨ga, ega⟩ : ∃ ga, u0.heap.size = ga := ⟨_, rfl⟩
    obtain ⟨gb, egb⟩ : ∃ gb, u1.heap.size = gb := ⟨_, rfl⟩
    rw [ega, egb]
    simp only [Act.put, List.setIfInBounds_toArray, List.set_cons_succ, List.set_cons_zero]
    have hL : Below w2.heap.size w2 w3 := by rw [eM]; exact hS3
    have hOx : Own w3 w2.heap.size (.slice A3 32 c3) (chTo 1 (List.replicate 16 0) zz16 zz32 2).1 := hO.lower (by omega)
    clear hO hLx hS1 hS2 hS3 hB1 hB2 hB1b hG1 hG2 hdr hz1 hz2 ega egb hds
    have hM3 : Below N w w3 := below_more hM2 hL hs2
    have hs3 : N ≤ w3.heap.size := Nat.le_trans hs2 (hL).size
    have E_3 := Lib.hid (E_2.out.below hL)
    clear E_2
    have K_3 := Lib.hid (K_2.out.under hL)
    clear K_2
    have C_3 := Lib.hid (C_2.out.next hL)
    clear C_2
    clear hM2 hs2
    have X_3 := Lib.hid (hOx)
    clear hL hOx eM eu0 HCH
    go_wp2_with (refine make_new (w := w3) rfl 22 5 _ _ rfl 16 (by kernel_rfl) (by kernel_rfl) .i64 .i64 rfl rfl (by omega) ?_; intro w4 hB hG hz; have hL : Below w3.heap.size w3 w4 := (below_none (Below.refl _ _) (Nat.le_refl _) hG); obtain ⟨gY, eg⟩ : ∃ g, w3.heap.size = g := ⟨_, rfl⟩; have hgY : N ≤ gY := (by omega); have hB2 : Blk w4 gY u8t (List.replicate 16 0) := (by rw [← eg]; exact hB); have hL2 := hL; rw [eg] at hL2 ⊢; clear hB hG hz)
    have hM4 : Below N w w4 := below_more hM3 hL hs3
    have hs4 : N ≤ w4.heap.size := Nat.le_trans hs3 (hL).size
    have E_4 := Lib.hid (E_3.out.below hL)
    clear E_3
    have K_4 := Lib.hid (K_3.out.under hL)
    clear K_3
    have C_4 := Lib.hid (C_3.out.next hL)
    clear C_3
    have X_4 := Lib.hid (X_3.out.under hL)
    clear X_3
    clear hM3 hs3
    have Y_4 := Lib.hid (hB2)
    clear hL hB2 hL2 eg
    go_wp2_with fail
    refine (Alone16 _ _ w4.heap.size 1 (List.replicate 16 0) (List.replicate 16 0) false w4 C_4.out (Nat.le_refl _) (by decide) (Y_4.out.slB (n := 16) rfl (by decide)) (by decide) (by decide)).mono ?_
    rintro e w5 ⟨v4, rfl, hO, hL⟩
    obtain ⟨A4, c4, ev4, hc4⟩ := hO.slB.formc (L := 16) (outTo_len _ 16 (fun _ => pdo_len 1 _ _ _ (.inl rfl)) 1)
    subst ev4
    have hM5 : Below N w w5 := below_more hM4 hL hs4
    have hs5 : N ≤ w5.heap.size := Nat.le_trans hs4 (hL).size
    have E_5 := Lib.hid (E_4.out.below hL)
    clear E_4
    have K_5 := Lib.hid (K_4.out.under hL)
    clear K_4
    have C_5 := Lib.hid (C_4.out.next hL)
    clear C_4
    have X_5 := Lib.hid (X_4.out.under hL)
    clear X_4
    have Y_5 := Lib.hid (Y_4.out.under hL)
    clear Y_4
    clear hM4 hs4
    have Z_5 := Lib.hid (hO)
    clear hL hO
    go_wp2_with (refine make_new (w := w5) rfl 22 5 _ _ rfl 15 (by kernel_rfl) (by kernel_rfl) .i64 .i64 rfl rfl (by omega) ?_; intro w6 hB hG hz; have hL : Below w5.heap.size w5 w6 := (below_none (Below.refl _ _) (Nat.le_refl _) hG); obtain ⟨gV, eg⟩ : ∃ g, w5.heap.size = g := ⟨_, rfl⟩; have hgV : N ≤ gV := (by omega); have hB2 : Blk w6 gV u8t (List.replicate 15 0) := (by rw [← eg]; exact hB); have hL2 := hL; rw [eg] at hL2 ⊢; clear hB hG hz)
    have hM6 : Below N w w6 := below_more hM5 hL hs5
    have hs6 : N ≤ w6.heap.size := Nat.le_trans hs5 (hL).size
    have E_6 := Lib.hid (E_5.out.below hL)
    clear E_5
    have K_6 := Lib.hid (K_5.out.under hL)
    clear K_5
    have C_6 := Lib.hid (C_5.out.next hL)
    clear C_5
    have X_6 := Lib.hid (X_5.out.under hL)
    clear X_5
    have Y_6 := Lib.hid (Y_5.out.under hL)
    clear Y_5
    have Z_6 := Lib.hid (Z_5.out.under hL)
    clear Z_5
    clear hM5 hs5
    have V_6 := Lib.hid (hB2)
    clear hL hB2 hL2 eg
    go_wp2_with fail
    refine (Alone_bad16 _ _ w6.heap.size (List.replicate 16 0) (List.replicate 15 0) false w6 C_6.out (Nat.le_refl _) (V_6.out.slB (n := 15) rfl (by decide)) (by decide)).mono ?_
    rintro e w7 ⟨rfl, hL⟩
    have hM7 : Below N w w7 := below_more hM6 hL hs6
    have hs7 : N ≤ w7.heap.size := Nat.le_trans hs6 (hL).size
    have E_7 := Lib.hid (E_6.out.below hL)
    clear E_6
    have K_7 := Lib.hid (K_6.out.under hL)
    clear K_6
    have C_7 := Lib.hid (C_6.out.next hL)
    clear C_6
    have X_7 := Lib.hid (X_6.out.under hL)
    clear X_6
    have Y_7 := Lib.hid (Y_6.out.under hL)
    clear Y_6
    have Z_7 := Lib.hid (Z_6.out.under hL)
    clear Z_6
    have V_7 := Lib.hid (V_6.out.under hL)
    clear V_6
    clear hM6 hs6
    clear hL
    have h32 : (chTo 1 (List.replicate 16 0) zz16 zz32 2).1.length = 32 := chTo_len 1 _ _ _ 2 (.inl rfl)
    have HX := Lib.hid X_7.out.slB
    have HX1 := Lib.hid (show SlB w7 (.slice A3 16 c3) (pEnc ezk ezk) from by have h := HX.out.take (n := 16) (by rw [h32]; decide); rw [ez_fst] at h; exact h)
    have hform := HX.out
    obtain ⟨A3g, c3g, e3, n1, n2, n3, n4⟩ := hform
    obtain ⟨g3, o3, e4, _⟩ := n4 (by rw [h32] at n2; omega)
    rw [h32] at e3 n2
    cases e3
    subst e4
    have HX2 := Lib.hid (show SlB w7 (.slice (some ⟨g3, o3 + 16, none⟩) 16 (c3 - 16)) (pEnc ezk (pEnc ezk ezk)) from by have h := HX.out.drop (k := 16) (by rw [h32]; decide); rw [ez_snd] at h; exact h)
    have HZ := Lib.hid (show SlB w7 (.slice A4 16 c4) (pEnc ezk ezk) from by have h := Z_7.out.slB; rw [ez_alone] at h; exact h)
    clear HX n1 n3 n4 h32
    have i3 : ((c3 : Int)) ≤ 9223372036854775807 := by have := HX1.out; obtain ⟨_, _, q, _, _, q3, _⟩ := this; cases q; unfold maxLen at q3; omega
    have X1_7 := HX1
    have X2_7 := HX2
    have Z1_7 := HZ
    clear HX1 HX2 HZ
    go_wp2_with fail
    refine (Same_any _ _ (pEnc ezk ezk) (pEnc ezk ezk) w7 X1_7.out Z1_7.out (by rw [pEnc_len _ _ rfl]; decide)).mono ?_
    rintro e w8 ⟨rfl, hD⟩
    rw [beq_self_eq_true]
    have hM8 : Below N w w8 := below_more hM7 hD.below0 hs7
    have hs8 : N ≤ w8.heap.size := Nat.le_trans hs7 (hD.below0).size
    have E_8 := Lib.hid (E_7.out.below hD.below0)
    clear E_7
    have K_8 := Lib.hid (K_7.out.under hD.below0)
    clear K_7
    have C_8 := Lib.hid (C_7.out.next hD.below0)
    clear C_7
    have X_8 := Lib.hid (X_7.out.under hD.below0)
    clear X_7
    have Y_8 := Lib.hid (Y_7.out.under hD.below0)
    clear Y_7
    have Z_8 := Lib.hid (Z_7.out.under hD.below0)
    clear Z_7
    have V_8 := Lib.hid (V_7.out.under hD.below0)
    clear V_7
    have X1_8 := Lib.hid (X1_7.out.below hD.below0)
    clear X1_7
    have X2_8 := Lib.hid (X2_7.out.below hD.below0)
    clear X2_7
    have Z1_8 := Lib.hid (Z1_7.out.below hD.below0)
    clear Z1_7
    clear hM7 hs7
    clear hD
    go_wp2_with fail
    refine (Same_any _ _ (pEnc ezk (pEnc ezk ezk)) (pEnc ezk ezk) w8 X2_8.out Z1_8.out (by rw [pEnc_len _ _ (pEnc_len _ _ rfl)]; decide)).mono ?_
    rintro e w9 ⟨rfl, hD⟩
    rw [ez_ne]
    have hM9 : Below N w w9 := below_more hM8 hD.below0 hs8
    have hs9 : N ≤ w9.heap.size := Nat.le_trans hs8 (hD.below0).size
    have E_9 := Lib.hid (E_8.out.below hD.below0)
    clear E_8
    have K_9 := Lib.hid (K_8.out.under hD.below0)
    clear K_8
    have C_9 := Lib.hid (C_8.out.next hD.below0)
    clear C_8
    have X_9 := Lib.hid (X_8.out.under hD.below0)
    clear X_8
    have Y_9 := Lib.hid (Y_8.out.under hD.below0)
    clear Y_8
    have Z_9 := Lib.hid (Z_8.out.under hD.below0)
    clear Z_8
    have V_9 := Lib.hid (V_8.out.under hD.below0)
    clear V_8
    have X1_9 := Lib.hid (X1_8.out.below hD.below0)
    clear X1_8
    have X2_9 := Lib.hid (X2_8.out.below hD.below0)
    clear X2_8
    have Z1_9 := Lib.hid (Z1_8.out.below hD.below0)
    clear Z1_8
    clear hM8 hs8
    clear hD
    go_wp2_with fail
    refine (Code_any [] 2 _ w9 E_9.out rfl).mono ?_
    rintro e w10 ⟨rfl, hL⟩
    have hM10 : Below N w w10 := below_more hM9 hL hs9
    have hs10 : N ≤ w10.heap.size := Nat.le_trans hs9 (hL).size
    have E_10 := Lib.hid (E_9.out.below hL)
    clear E_9
    have K_10 := Lib.hid (K_9.out.under hL)
    clear K_9
    have C_10 := Lib.hid (C_9.out.next hL)
    clear C_9
    have X_10 := Lib.hid (X_9.out.under hL)
    clear X_9
    have Y_10 := Lib.hid (Y_9.out.under hL)
    clear Y_9
    have Z_10 := Lib.hid (Z_9.out.under hL)
    clear Z_9
    have V_10 := Lib.hid (V_9.out.under hL)
    clear V_9
    have X1_10 := Lib.hid (X1_9.out.below hL)
    clear X1_9
    have X2_10 := Lib.hid (X2_9.out.below hL)
    clear X2_9
    have Z1_10 := Lib.hid (Z1_9.out.below hL)
    clear Z1_9
    clear hM9 hs9
    clear hL
    go_wp2_with fail
    go_ret
    exact ⟨rfl, by rw [HN.out]; exact hM10⟩
end Go.Proofs.YtbbfjlnkhenbiaaGreatDoor
set_option linter.unusedVariables false
set_option linter.unusedSimpArgs false
namespace Lk
theorem pdo_back (kind : Nat) (key b : List UInt8) (back : Bool) (hk : kind = 1 ∨ kind = 2) (hb : b.length = psize kind) : pdo kind key (pdo kind key b back) (!back) = b := by
  rcases hk with rfl | rfl
  · cases back
    · exact pDec_pEnc key b hb
    · exact pEnc_pDec key b hb
  · exact ptriple_back key b back hb
theorem pxor_twice (a c : List UInt8) : pxor (pxor a c) c = a := by
  apply ext_g8
  · rw [pxor_len, pxor_len]
  · intro i hi
    rw [pxor_len, pxor_len] at hi
    rw [pxor_at _ _ _ (by rw [pxor_len]; exact hi), pxor_at _ _ _ hi, UInt8.xor_assoc, UInt8.xor_self, UInt8.xor_zero]
theorem outTo_congr (o o' : Nat → List UInt8) : ∀ m, (∀ k, k < m → o k = o' k) → outTo o m = outTo o' m
  | 0, _ => rfl
  | m + 1, h => by
    rw [outTo, outTo, outTo_congr o o' m (fun k hk => h k (by omega)), h m (by omega)]
theorem outTo_take (t : List UInt8) (n : Nat) : ∀ m, n * m ≤ t.length → outTo (blkAt t n) m = t.take (n * m)
  | 0, _ => by simp [outTo]
  | m + 1, h => by
    rw [Nat.mul_add, Nat.mul_one] at h
    rw [outTo, outTo_take t n m (by omega), Nat.mul_add, Nat.mul_one, List.take_add]
    rfl
theorem outTo_blkAt (t : List UInt8) (n m : Nat) (ht : t.length = n * m) : outTo (blkAt t n) m = t := by
  rw [outTo_take t n m (by omega), List.take_of_length_le (by omega)]
theorem blkAt_app (a b : List UInt8) (n k : Nat) (h : n * k + n ≤ a.length) : blkAt (a ++ b) n k = blkAt a n k := by
  unfold blkAt
  rw [List.drop_append_of_le_length (by omega), List.take_append_of_le_length (by rw [List.length_drop]; omega)]
theorem blkAt_outTo (o : Nat → List UInt8) (n : Nat) (h : ∀ k, (o k).length = n) : ∀ m k, k < m → blkAt (outTo o m) n k = o k
  | m + 1, k, hk => by
    have hl := outTo_len o n h m
    by_cases e : k = m
    · subst e
      unfold blkAt
      rw [outTo, List.drop_append, List.drop_of_length_le (by omega), hl, Nat.sub_self, List.drop_zero, List.nil_append, List.take_of_length_le (by rw [h k]; exact Nat.le_refl _)]
    · have hlt : k < m := by omega
      have h2 : n * (k + 1) ≤ n * m := Nat.mul_le_mul_left n hlt
      rw [Nat.mul_add, Nat.mul_one] at h2
      rw [outTo, blkAt_app _ _ _ _ (by omega)]
      exact blkAt_outTo o n h m k hlt
theorem aloneTo_len (kind : Nat) (key t : List UInt8) (back : Bool) (m : Nat) (hk : kind = 1 ∨ kind = 2) : (aloneTo kind key t back m).length = psize kind * m := outTo_len _ _ (fun _ => pdo_len kind _ _ _ hk) m
theorem alone_back (kind : Nat) (key t : List UInt8) (back : Bool) (m : Nat) (hk : kind = 1 ∨ kind = 2) (ht : t.length = psize kind * m) : aloneTo kind key (aloneTo kind key t back m) (!back) m = t := by
  rw [← outTo_blkAt t (psize kind) m ht]
  refine (outTo_congr _ _ m fun k hkm => ?_)
  show pdo kind key (blkAt (aloneTo kind key (outTo (blkAt t (psize kind)) m) back m) (psize kind) k) (!back) = _
  rw [outTo_blkAt t (psize kind) m ht]
  unfold aloneTo
  rw [blkAt_outTo _ _ (fun _ => pdo_len kind _ _ _ hk) m k hkm]
  exact pdo_back kind key _ back hk (blkAt_len t _ m k ht hkm)
theorem chTo_out (kind : Nat) (key start t : List UInt8) : ∀ m, (chTo kind key start t m).1 = outTo (fun k => (chTo kind key start t (k + 1)).2) m
  | 0 => rfl
  | m + 1 => by rw [outTo, ← chTo_out kind key start t m]; rfl
theorem unchTo_len (kind : Nat) (key start t : List UInt8) (m : Nat) (hk : kind = 1 ∨ kind = 2) : (unchTo kind key start t m).length = psize kind * m := outTo_len _ _ (fun _ => by rw [pxor_len]; exact pdo_len kind _ _ _ hk) m
theorem unch_ch (kind : Nat) (key start t : List UInt8) (m : Nat) (hk : kind = 1 ∨ kind = 2) (ht : t.length = psize kind * m) (hs : start.length = psize kind) : unchTo kind key start (chTo kind key start t m).1 m = t := by
  have hb : ∀ k, k < m → blkAt (chTo kind key start t m).1 (psize kind) k = (chTo kind key start t (k + 1)).2 := fun k hkm => by
    rw [chTo_out, blkAt_outTo _ _ (fun j => chTo_last kind key start t (j + 1) hk hs) m k hkm]
  have hl : ∀ k, k ≤ m → lastB start (chTo kind key start t m).1 (psize kind) k = (chTo kind key start t k).2 := fun k hkm => by
    cases k with
    | zero => rfl
    | succ k => exact hb k (by omega)
  have : unchTo kind key start (chTo kind key start t m).1 m = outTo (blkAt t (psize kind)) m := outTo_congr _ _ m fun k hkm => by
    show pxor (pdo kind key (blkAt (chTo kind key start t m).1 (psize kind) k) true) (lastB start (chTo kind key start t m).1 (psize kind) k) = _
    rw [hb k hkm, hl k (Nat.le_of_lt hkm)]
    show pxor (pdo kind key (pdo kind key (pxor (blkAt t (psize kind) k) (chTo kind key start t k).2) false) true) _ = _
    rw [show true = !false from rfl, pdo_back kind key _ false hk (by rw [pxor_len]; exact blkAt_len t _ m k ht hkm), pxor_twice]
  rw [this, outTo_blkAt t _ m ht]
theorem ch_unch_last (kind : Nat) (key start t : List UInt8) (m : Nat) (hk : kind = 1 ∨ kind = 2) (ht : t.length = psize kind * m) (hs : start.length = psize kind) : ∀ k, k ≤ m → (chTo kind key start (unchTo kind key start t m) k).2 = lastB start t (psize kind) k
  | 0, _ => rfl
  | k + 1, hkm => by
    show pdo kind key (pxor (blkAt (unchTo kind key start t m) (psize kind) k) (chTo kind key start (unchTo kind key start t m) k).2) false = blkAt t (psize kind) k
    rw [ch_unch_last kind key start t m hk ht hs k (by omega)]
    unfold unchTo
    rw [blkAt_outTo _ _ (fun _ => by rw [pxor_len]; exact pdo_len kind _ _ _ hk) m k (by omega), pxor_twice]
    exact pdo_back kind key _ true hk (blkAt_len t _ m k ht (by omega))
theorem ch_unch (kind : Nat) (key start t : List UInt8) (m : Nat) (hk : kind = 1 ∨ kind = 2) (ht : t.length = psize kind * m) (hs : start.length = psize kind) : (chTo kind key start (unchTo kind key start t m) m).1 = t := by
  rw [chTo_out]
  have : outTo (fun k => (chTo kind key start (unchTo kind key start t m) (k + 1)).2) m = outTo (blkAt t (psize kind)) m := outTo_congr _ _ m fun k hkm => ch_unch_last kind key start t m hk ht hs (k + 1) (by omega)
  rw [this, outTo_blkAt t _ m ht]
/-- chained, whichever way -/
def cchain (kind : Nat) (key start t : List UInt8) (back : Bool) (m : Nat) : List UInt8 := bif back then unchTo kind key start t m else (chTo kind key start t m).1
theorem cchain_back (kind : Nat) (key start t : List UInt8) (back : Bool) (m : Nat) (hk : kind = 1 ∨ kind = 2) (ht : t.length = psize kind * m) (hs : start.length = psize kind) : cchain kind key start (cchain kind key start t back m) (!back) m = t := by
  cases back
  · exact unch_ch kind key start t m hk ht hs
  · exact ch_unch kind key start t m hk ht hs
theorem cchain_len (kind : Nat) (key start t : List UInt8) (back : Bool) (m : Nat) (hk : kind = 1 ∨ kind = 2) : (cchain kind key start t back m).length = psize kind * m := by
  cases back
  · exact chTo_len kind key start t m hk
  · exact unchTo_len kind key start t m hk
theorem blkAt_drop (t : List UInt8) (n j k : Nat) : blkAt (t.drop (n * j)) n k = blkAt t n (j + k) := by
  unfold blkAt
  rw [List.drop_drop, Nat.mul_add]
theorem blkAt_take (t : List UInt8) (n j k : Nat) (h : k < j) : blkAt (t.take (n * j)) n k = blkAt t n k := by
  unfold blkAt
  have h2 : n * (k + 1) ≤ n * j := Nat.mul_le_mul_left n h
  rw [Nat.mul_add, Nat.mul_one] at h2
  rw [List.drop_take, List.take_take, Nat.min_eq_left (by omega)]
theorem chTo_congr (kind : Nat) (key start t u : List UInt8) : ∀ m, (∀ k, k < m → blkAt t (psize kind) k = blkAt u (psize kind) k) → chTo kind key start t m = chTo kind key start u m
  | 0, _ => rfl
  | m + 1, h => by
    have ih := chTo_congr kind key start t u m fun k hk => h k (by omega)
    simp only [chTo]
    rw [ih, h m (by omega)]
theorem chTo_parts (kind : Nat) (key start t : List UInt8) (j : Nat) : ∀ i, chTo kind key start t (j + i) = ((chTo kind key start t j).1 ++ (chTo kind key (chTo kind key start t j).2 (t.drop (psize kind * j)) i).1, (chTo kind key (chTo kind key start t j).2 (t.drop (psize kind * j)) i).2)
  | 0 => by simp [chTo]
  | i + 1 => by
    have ih := chTo_parts kind key start t j i
    rw [← Nat.add_assoc]
    simp only [chTo]
    rw [ih, blkAt_drop]
    simp [List.append_assoc]
theorem ch_parts (kind : Nat) (key start t : List UInt8) (j i : Nat) : (chTo kind key start t (j + i)).1 = (chTo kind key start (t.take (psize kind * j)) j).1 ++ (chTo kind key (chTo kind key start (t.take (psize kind * j)) j).2 (t.drop (psize kind * j)) i).1 := by
  have e : chTo kind key start (t.take (psize kind * j)) j = chTo kind key start t j := chTo_congr kind key start _ _ j fun k hk => blkAt_take t _ j k hk
  rw [e, chTo_parts]
end Lk
