/- The reference's tag of a code. -/
import Derived.Test.YtbbfjlnkhenbiaaGreatDoorKR7
import Derived.Test.YtbbfjlnkhenbiaaGreatDoorKG0
set_option linter.unusedVariables false
set_option linter.unusedSimpArgs false
namespace Go.Proofs.YtbbfjlnkhenbiaaGreatDoor
open Go Go.RowKit Lk
theorem conv_sb (w : World) (s : ByteArray) : (convert 9 22 (.string s)).run Tryz.prog w = .ok (.slice (some ⟨w.heap.size, 0, none⟩) s.size (grownCap w s.size 0 5)) (Lib.bytesWorld w 5 s) :=
  Lib.run_convert_string_bytes w 9 22 5 s (u := .string) (by kernel_rfl) (by kernel_rfl) (by kernel_rfl)
theorem bytes_below (w : World) (e : TypeId) (s : ByteArray) (N : Nat) (hN : N ≤ w.heap.size) : Below N w (Lib.bytesWorld w e s) :=
  ⟨rfl, rfl, rfl, by rw [Lib.bytesWorld_size]; omega, fun i hi => Lib.bytesWorld_at_old w e s i (by omega)⟩
theorem bytes_rd (w : World) (e : TypeId) (s : ByteArray) : Rd (Lib.bytesWorld w e s) w.heap.size 0 (sb s) := fun k hk => by
  rw [Nat.zero_add, Lib.bytesWorld_cell w e s k (by rw [← sb_len]; exact hk)]
  unfold g8 sb bv
  rfl
theorem grown_ok (w : World) (s : ByteArray) (h : s.size ≤ 1000) : s.size ≤ grownCap w s.size 0 5 ∧ grownCap w s.size 0 5 ≤ maxLen :=
  ⟨grownCap_ge _ _ _ _, grownCap_le_maxLen _ _ _ _ (by unfold maxLen; omega)⟩
theorem ne_own_bk {w : World} {base g : Nat} {v : Value} {l : List UInt8} {cs : List Value} (h : Own w base v l) (hB : VB w g bkt cs) : v.ownBlock ≠ some g := by
  rcases h.2 with ⟨rfl, _⟩ | ⟨g', cap', cur, rfl, _, hg, _⟩
  · simp [Value.ownBlock]
  · intro e
    have : g' = g := by simpa [Value.ownBlock] using e
    subst this
    unfold VB at hB
    rw [hg] at hB
    injection hB with hB
    injection hB with _ ht
    exact absurd ht (by decide)
section
variable {ops : Array Oper} {Q : Exit → Act → World → Prop} {K : Act → World → Prop} {i : Nat} {o : Oper} {a : Act} {w : World}
theorem wpOp_conv (hi : ops[i]? = some o) (hw : Region.wanted o (yielded ops a.tmps) = true) (x : Operand) (ho : o.op = .convert 9 22 x) (s : ByteArray) (hx : a.eval x = .string s)
    (hk : K (a.put o.dst (.slice (some ⟨w.heap.size, 0, none⟩) s.size (grownCap w s.size 0 5))) (Lib.bytesWorld w 5 s)) : wpOp Tryz.prog ops Q i K a w := by
  refine wpOp_run hi hw _ _ ?_ hk
  unfold execOp
  simp only [ho, hx, Sem.run_bind, conv_sb w s, Result.andThen_ok]
  rfl
end
set_option maxHeartbeats 12800000 in
set_option maxRecDepth 100000 in
theorem rtag_any (k : List UInt8) (z : Int) (u : UInt8) (code : ByteArray) (w : World) (hz : z = bv u) (hk : k.length = 16) (hcs : code.size ≤ 500) :
    Calls Tryz.prog 30 #[.agg (Bs k), .int .i64 z, .string code] w fun e w' => ∃ v, e = .returned v ∧ SlB w' v (ptag k u code) ∧ Below w.heap.size w w' := by
  obtain ⟨N, hN⟩ : ∃ N, w.heap.size = N := ⟨_, rfl⟩
  have HN := Lib.hid hN
  have HK := Lib.hid hk
  have HU := Lib.hid hz
  have HCS := Lib.hid hcs
  have HSL := Lib.hid (sb_len code)
  have h0 := bv_ge u
  have h1 := bv_lt u
  clear hz
  go_enter Tryz.func30, Tryz.ntmps30
  go_wp2_with (first
    | ((with_reducible show wpList _ _ _ _ _ w); refine box_blk (w := w) rfl 53 _ rfl k rfl ?_; intro w1 hB1 hG1 hs1; rw [hN] at hB1; have HB1 := Lib.hid hB1; have HL1 := Lib.hid (show Below N w w1 from by rw [← hN]; exact below_none (Below.refl _ _) (Nat.le_refl _) hG1); clear hB1 hG1))
  have hzz : N + 1 ≤ w1.heap.size := by omega
  have hS_0 : (Below N w w1.drew ∧ Blk w1.drew N 53 k) := ⟨⟨HL1.out.os, HL1.out.tape, HL1.out.output, HL1.out.size, HL1.out.block⟩, HB1.out⟩
  have hw0 : N + 1 ≤ w1.drew.heap.size := hzz
  clear hs1 HB1 HL1 hN hcs hk
  refine wp_region_held (S := fun w9 => Below N w w9 ∧ Blk w9 N 53 k) (by kernel_rfl) ?_
  show wpAnyH _ _ _ _ _ 17 _ _ w1.drew
  refine wpAnyH_take (i := 0) rfl (by kernel_rfl) (by kernel_rfl) (by kernel_rfl) (fun _ _ _ h => h) (yields_val (by kernel_rfl) (.slice (some ⟨N, 0, none⟩) 16 16) (fun w => by kernel_rfl)) hS_0 ?_
  refine wpAnyH_take (i := 1) rfl (by kernel_rfl) (by kernel_rfl) (by kernel_rfl) (fun _ _ _ h => h) (yields_val (by kernel_rfl) (.agg #[.slice none 0 0, .slice none 0 0]) (fun w => by kernel_rfl)) hS_0 ?_
  refine wpAnyH_take (i := 2) rfl (by kernel_rfl) (by kernel_rfl) (by kernel_rfl) (fun _ _ _ h => h) (yields_val (by kernel_rfl) (.int .i64 z) (fun w => by kernel_rfl)) hS_0 ?_
  refine wpAnyH_take (i := 3) rfl (by kernel_rfl) (by kernel_rfl) (by kernel_rfl) (fun _ _ _ h => h) (yields_val (by kernel_rfl) (.int .u8 (bv u)) (fun w => by rw [show bv u = IntKind.u8.wrap z from by rw [HU.out, IntKind.wrap_u8]; omega]; kernel_rfl)) hS_0 ?_
  refine wpAnyH_take (i := 5) rfl (by kernel_rfl) (by kernel_rfl) (by kernel_rfl) (fun _ _ _ h => h) (yields_val (by kernel_rfl) (.string code) (fun w => by kernel_rfl)) hS_0 ?_
  obtain ⟨u0, eu0⟩ : ∃ x, w1.drew = x := ⟨_, rfl⟩
  rw [eu0] at hS_0 hw0 ⊢
  clear eu0
  refine wpAnyH_all (rs := [4, 6, 13]) (by kernel_rfl) (by decide) ?_
  intro i0 hi0
  simp only [List.mem_cons, List.not_mem_nil, or_false] at hi0
  rcases hi0 with rfl | rfl | rfl
  · skip
    refine wpOp_run rfl (by kernel_rfl) (.slice (some ⟨u0.heap.size, 0, none⟩) 1 1) (u0.alloc (.cells (Bs [u]) u8t)) (by kernel_rfl) ?_
    have hL : Below u0.heap.size u0 (u0.alloc (.cells (Bs [u]) u8t)) := below_alloc (Below.refl _ _) (Nat.le_refl _) _
    have hOA := own_lit u0 (N + 1) [u] hw0 (by simp)
    obtain ⟨gA, egA⟩ : ∃ g, u0.heap.size = g := ⟨_, rfl⟩
    rw [egA] at hOA ⊢
    generalize u0.alloc (.cells (Bs [u]) u8t) = u1 at hL hOA ⊢
    have HA_1 := Lib.hid (show Own u1 (N + 1) (.slice (some ⟨gA, 0, none⟩) 1 1) [u] from hOA)
    clear hOA egA
    have hS_1 : (Below N w u1 ∧ Blk u1 N 53 k) := ⟨below_more hS_0.1 hL (by omega), hS_0.2.below hL (by omega)⟩
    have hw1 : N + 1 ≤ u1.heap.size := Nat.le_trans hw0 hL.size
    refine ⟨hS_1, ?_⟩
    clear hL hS_0 hw0
    refine wpAnyH_all (rs := [6, 13]) (by kernel_rfl) (by decide) ?_
    intro i1 hi1
    simp only [List.mem_cons, List.not_mem_nil, or_false] at hi1
    rcases hi1 with rfl | rfl
    · skip
      refine wpOp_conv rfl (by kernel_rfl) _ rfl code (by kernel_rfl) ?_
      have hL : Below u1.heap.size u1 (Lib.bytesWorld u1 5 code) := bytes_below _ _ _ _ (Nat.le_refl _)
      have hRB := bytes_rd u1 5 code
      obtain ⟨hc1, hc2⟩ := grown_ok u1 code (by have := HCS.out; omega)
      obtain ⟨gB, egB⟩ : ∃ g, u1.heap.size = g := ⟨_, rfl⟩
      obtain ⟨cB, ecB⟩ : ∃ c, grownCap u1 code.size 0 5 = c := ⟨_, rfl⟩
      rw [egB] at hRB
      rw [ecB] at hc1 hc2
      rw [egB, ecB]
      generalize Lib.bytesWorld u1 5 code = u2 at hL hRB ⊢
      have HA_2 := Lib.hid (HA_1.out.under hL)
      have HB_2 := Lib.hid (show SlB u2 (.slice (some ⟨gB, 0, none⟩) code.size cB) (sb code) from ⟨_, cB, by rw [HSL.out], fun h => (by cases h), by rw [HSL.out]; exact hc1, hc2, fun _ => ⟨gB, 0, rfl, hRB⟩⟩)
      clear hRB egB ecB hc1 hc2
      have hS_2 : (Below N w u2 ∧ Blk u2 N 53 k) := ⟨below_more hS_1.1 hL (by omega), hS_1.2.below hL (by omega)⟩
      have hw2 : N + 1 ≤ u2.heap.size := Nat.le_trans hw1 hL.size
      refine ⟨hS_2, ?_⟩
      clear hL hS_1 hw1
      refine wpAnyH_all (rs := [7, 13]) (by kernel_rfl) (by decide) ?_
      intro i2 hi2
      simp only [List.mem_cons, List.not_mem_nil, or_false] at hi2
      rcases hi2 with rfl | rfl
      · skip
        refine wpOp_append rfl (by kernel_rfl) hu_sl hu_u8 _ _ rfl (N + 1) _ [u] (by kernel_rfl) HA_2.out ⟨gB, 0, none⟩ code.size cB (sb code) (by kernel_rfl) HB_2.out (by rw [HSL.out]; have := HCS.out; simp; omega) hw2 ?_
        intro vC u3 hOC hGC
        have hL : Below (N + 1) u2 u3 := below_own (Below.refl _ _) hw2 hGC (fun q hq => (HA_2.out.lt q hq).1)
        have HC_3 := Lib.hid (show Own u3 (N + 1) vC (u :: sb code) from hOC)
        clear hOC hGC
        have hS_3 : (Below N w u3 ∧ Blk u3 N 53 k) := ⟨below_more hS_2.1 hL (by omega), hS_2.2.below hL (by omega)⟩
        have hw3 : N + 1 ≤ u3.heap.size := Nat.le_trans hw2 hL.size
        refine ⟨hS_3, ?_⟩
        clear hL hS_2 hw2
        refine wpAnyH_all (rs := [8, 13]) (by kernel_rfl) (by decide) ?_
        intro i3 hi3
        simp only [List.mem_cons, List.not_mem_nil, or_false] at hi3
        rcases hi3 with rfl | rfl
        · skip
          refine wpOp_enterE rfl (by kernel_rfl) 25 #[.int .i64 1, .slice (some ⟨N, 0, none⟩) 16 16, .agg #[.slice none 0 0, .slice none 0 0], vC] (fun v w9 => ∃ vd, v = .tuple #[.agg #[.slice none 0 0, .slice none 0 0], vd, .bool true] ∧ SlB w9 vd (ptag k u code) ∧ (∀ q, vd.ownBlock = some q → u3.heap.size ≤ q) ∧ Below u3.heap.size u3 w9) (by kernel_rfl) ((rCmac1_any _ _ k (u :: sb code) (.slice none 0 0) (.slice none 0 0) u3 ⟨_, _, _, rfl⟩ ⟨_, _, _, rfl⟩ (Blk.slB hS_3.2 HK.out (by decide)) (.inl HK.out) HC_3.out.slB (by simp only [List.length_cons, HSL.out]; have := HCS.out; omega)).mono fun e w9 ⟨vd, q1, q2, q3, q4⟩ => ⟨_, q1, vd, rfl, q2, q3, q4⟩) ?_
          rintro vr u4 ⟨vd, rfl, hD, hDf, hL⟩
          have HC_4 := Lib.hid (HC_3.out.under hL)
          have HD_4 := Lib.hid hD
          clear hD hDf
          have hS_4 : (Below N w u4 ∧ Blk u4 N 53 k) := ⟨below_more hS_3.1 hL (by omega), hS_3.2.below hL (by omega)⟩
          have hw4 : N + 1 ≤ u4.heap.size := Nat.le_trans hw3 hL.size
          refine ⟨hS_4, ?_⟩
          clear hL hS_3 hw3
          refine wpAnyH_take (i := 9) rfl (by kernel_rfl) (by kernel_rfl) (by kernel_rfl) (fun _ _ _ h => h) (yields_val (by kernel_rfl) (.tuple #[.agg #[.slice none 0 0, .slice none 0 0], vd, .bool true]) (fun w => by kernel_rfl)) hS_4 ?_
          refine wpAnyH_take (i := 10) rfl (by kernel_rfl) (by kernel_rfl) (by kernel_rfl) (fun _ _ _ h => h) (yields_val (by kernel_rfl) (.agg #[.slice none 0 0, .slice none 0 0]) (fun w => by kernel_rfl)) hS_4 ?_
          refine wpAnyH_take (i := 11) rfl (by kernel_rfl) (by kernel_rfl) (by kernel_rfl) (fun _ _ _ h => h) (yields_val (by kernel_rfl) (vd) (fun w => by kernel_rfl)) hS_4 ?_
          refine wpAnyH_take (i := 12) rfl (by kernel_rfl) (by kernel_rfl) (by kernel_rfl) (fun _ _ _ h => h) (yields_val (by kernel_rfl) (.bool true) (fun w => by kernel_rfl)) hS_4 ?_
          refine wpAnyH_all (rs := [13]) (by kernel_rfl) (by decide) ?_
          intro i4 hi4
          obtain rfl : i4 = 13 := by simpa using hi4
          refine wpOp_run rfl (by kernel_rfl) (.pointer (some ⟨u4.heap.size, 0, none⟩)) (u4.alloc (.cells #[.slice none 0 0, .slice none 0 0] bkt)) (by kernel_rfl) ?_
          have hL : Below u4.heap.size u4 (u4.alloc (.cells #[.slice none 0 0, .slice none 0 0] bkt)) := below_alloc (Below.refl _ _) (Nat.le_refl _) _
          have hVE : VB (u4.alloc (.cells #[.slice none 0 0, .slice none 0 0] bkt)) u4.heap.size bkt [.slice none 0 0, .slice none 0 0] := heap_alloc_new _ _
          obtain ⟨gE, egE⟩ : ∃ g, u4.heap.size = g := ⟨_, rfl⟩
          rw [egE] at hVE ⊢
          generalize u4.alloc (.cells #[.slice none 0 0, .slice none 0 0] bkt) = u5 at hL hVE ⊢
          have HD_5 := Lib.hid (HD_4.out.below hL)
          have HE_5 := Lib.hid hVE
          have hNE : N + 1 ≤ gE := by omega
          have HDf := Lib.hid (show vd.ownBlock ≠ some gE from fun ee => absurd (HD_4.out.lt (by rw [ptag_len]; decide) gE ee) (by omega))
          clear hVE egE
          have hS_5 : (Below N w u5 ∧ Blk u5 N 53 k) := ⟨below_more hS_4.1 hL (by omega), hS_4.2.below hL (by omega)⟩
          have hw5 : N + 1 ≤ u5.heap.size := Nat.le_trans hw4 hL.size
          refine ⟨hS_5, ?_⟩
          clear hL hS_4 hw4
          refine wpAnyH_all (rs := [14]) (by kernel_rfl) (by decide) ?_
          intro i5 hi5
          obtain rfl : i5 = 14 := by simpa using hi5
          refine wpOp_storev rfl (by kernel_rfl) bkt _ _ rfl gE bkt 2 [.slice none 0 0, .slice none 0 0] (by kernel_rfl) (by kernel_rfl) (VB.row HE_5.out rfl) (by intro q hq; simp at hq; subst hq; rfl) rfl bkt_i ?_
          intro u6 hBs hGs hss
          have hL : Below (N + 1) u5 u6 := below_new (Below.refl _ _) hw5 hGs hNE
          have HD_6 := Lib.hid (HD_5.out.old hGs (.inr HDf.out))
          have hS_6 : (Below N w u6 ∧ Blk u6 N 53 k) := ⟨below_more hS_5.1 hL (by omega), hS_5.2.below hL (by omega)⟩
          have hw6 : N + 1 ≤ u6.heap.size := Nat.le_trans hw5 hL.size
          refine ⟨hS_6, ?_⟩
          clear hL hS_5 hw5
          refine wpAnyH_take (i := 15) rfl (by kernel_rfl) (by kernel_rfl) (by kernel_rfl) (fun _ _ _ h => h) (yields_val (by kernel_rfl) (vd) (fun w => by kernel_rfl)) hS_6 ?_
          refine wpAnyH_take (i := 16) rfl (by kernel_rfl) (by kernel_rfl) (by kernel_rfl) (fun _ _ _ h => h) (yields_val (by kernel_rfl) (.bool true) (fun w => by kernel_rfl)) hS_6 ?_
          refine wpAnyH_done (by kernel_rfl) ?_ _
          simp only [Act.put, List.getElem_toArray, List.getElem_cons_succ, List.getElem_cons_zero, List.setIfInBounds_toArray, List.set_cons_succ, List.set_cons_zero]
          go_wp2
          go_ret
          exact ⟨_, rfl, HD_6.out, by rw [HN.out]; exact hS_6.1⟩
        · skip
          refine wpOp_run rfl (by kernel_rfl) (.pointer (some ⟨u3.heap.size, 0, none⟩)) (u3.alloc (.cells #[.slice none 0 0, .slice none 0 0] bkt)) (by kernel_rfl) ?_
          have hL : Below u3.heap.size u3 (u3.alloc (.cells #[.slice none 0 0, .slice none 0 0] bkt)) := below_alloc (Below.refl _ _) (Nat.le_refl _) _
          have hVE : VB (u3.alloc (.cells #[.slice none 0 0, .slice none 0 0] bkt)) u3.heap.size bkt [.slice none 0 0, .slice none 0 0] := heap_alloc_new _ _
          obtain ⟨gE, egE⟩ : ∃ g, u3.heap.size = g := ⟨_, rfl⟩
          rw [egE] at hVE ⊢
          generalize u3.alloc (.cells #[.slice none 0 0, .slice none 0 0] bkt) = u7 at hL hVE ⊢
          have HC_7 := Lib.hid (HC_3.out.under hL)
          have HE_7 := Lib.hid hVE
          have hNE : N + 1 ≤ gE := by omega
          clear hVE egE
          have hS_7 : (Below N w u7 ∧ Blk u7 N 53 k) := ⟨below_more hS_3.1 hL (by omega), hS_3.2.below hL (by omega)⟩
          have hw7 : N + 1 ≤ u7.heap.size := Nat.le_trans hw3 hL.size
          refine ⟨hS_7, ?_⟩
          clear hL hS_3 hw3
          refine wpAnyH_all (rs := [8]) (by kernel_rfl) (by decide) ?_
          intro i7 hi7
          obtain rfl : i7 = 8 := by simpa using hi7
          refine wpOp_enterE rfl (by kernel_rfl) 25 #[.int .i64 1, .slice (some ⟨N, 0, none⟩) 16 16, .agg #[.slice none 0 0, .slice none 0 0], vC] (fun v w9 => ∃ vd, v = .tuple #[.agg #[.slice none 0 0, .slice none 0 0], vd, .bool true] ∧ SlB w9 vd (ptag k u code) ∧ (∀ q, vd.ownBlock = some q → u7.heap.size ≤ q) ∧ Below u7.heap.size u7 w9) (by kernel_rfl) ((rCmac1_any _ _ k (u :: sb code) (.slice none 0 0) (.slice none 0 0) u7 ⟨_, _, _, rfl⟩ ⟨_, _, _, rfl⟩ (Blk.slB hS_7.2 HK.out (by decide)) (.inl HK.out) HC_7.out.slB (by simp only [List.length_cons, HSL.out]; have := HCS.out; omega)).mono fun e w9 ⟨vd, q1, q2, q3, q4⟩ => ⟨_, q1, vd, rfl, q2, q3, q4⟩) ?_
          rintro vr u8 ⟨vd, rfl, hD, hDf, hL⟩
          have HC_8 := Lib.hid (HC_7.out.under hL)
          have HE_8 := Lib.hid (VB.next HE_7.out hL)
          have HD_8 := Lib.hid hD
          have HDf := Lib.hid (show vd.ownBlock ≠ some gE from fun ee => absurd (hDf gE ee) (by have := VB.lt HE_7.out; omega))
          clear hD hDf
          have hS_8 : (Below N w u8 ∧ Blk u8 N 53 k) := ⟨below_more hS_7.1 hL (by omega), hS_7.2.below hL (by omega)⟩
          have hw8 : N + 1 ≤ u8.heap.size := Nat.le_trans hw7 hL.size
          refine ⟨hS_8, ?_⟩
          clear hL hS_7 hw7
          refine wpAnyH_take (i := 9) rfl (by kernel_rfl) (by kernel_rfl) (by kernel_rfl) (fun _ _ _ h => h) (yields_val (by kernel_rfl) (.tuple #[.agg #[.slice none 0 0, .slice none 0 0], vd, .bool true]) (fun w => by kernel_rfl)) hS_8 ?_
          refine wpAnyH_take (i := 10) rfl (by kernel_rfl) (by kernel_rfl) (by kernel_rfl) (fun _ _ _ h => h) (yields_val (by kernel_rfl) (.agg #[.slice none 0 0, .slice none 0 0]) (fun w => by kernel_rfl)) hS_8 ?_
          refine wpAnyH_take (i := 11) rfl (by kernel_rfl) (by kernel_rfl) (by kernel_rfl) (fun _ _ _ h => h) (yields_val (by kernel_rfl) (vd) (fun w => by kernel_rfl)) hS_8 ?_
          refine wpAnyH_take (i := 12) rfl (by kernel_rfl) (by kernel_rfl) (by kernel_rfl) (fun _ _ _ h => h) (yields_val (by kernel_rfl) (.bool true) (fun w => by kernel_rfl)) hS_8 ?_
          refine wpAnyH_all (rs := [14]) (by kernel_rfl) (by decide) ?_
          intro i8 hi8
          obtain rfl : i8 = 14 := by simpa using hi8
          refine wpOp_storev rfl (by kernel_rfl) bkt _ _ rfl gE bkt 2 [.slice none 0 0, .slice none 0 0] (by kernel_rfl) (by kernel_rfl) (VB.row HE_8.out rfl) (by intro q hq; simp at hq; subst hq; rfl) rfl bkt_i ?_
          intro u9 hBs hGs hss
          have hL : Below (N + 1) u8 u9 := below_new (Below.refl _ _) hw8 hGs hNE
          have HD_9 := Lib.hid (HD_8.out.old hGs (.inr HDf.out))
          have hS_9 : (Below N w u9 ∧ Blk u9 N 53 k) := ⟨below_more hS_8.1 hL (by omega), hS_8.2.below hL (by omega)⟩
          have hw9 : N + 1 ≤ u9.heap.size := Nat.le_trans hw8 hL.size
          refine ⟨hS_9, ?_⟩
          clear hL hS_8 hw8
          refine wpAnyH_take (i := 15) rfl (by kernel_rfl) (by kernel_rfl) (by kernel_rfl) (fun _ _ _ h => h) (yields_val (by kernel_rfl) (vd) (fun w => by kernel_rfl)) hS_9 ?_
          refine wpAnyH_take (i := 16) rfl (by kernel_rfl) (by kernel_rfl) (by kernel_rfl) (fun _ _ _ h => h) (yields_val (by kernel_rfl) (.bool true) (fun w => by kernel_rfl)) hS_9 ?_
          refine wpAnyH_done (by kernel_rfl) ?_ _
          simp only [Act.put, List.getElem_toArray, List.getElem_cons_succ, List.getElem_cons_zero, List.setIfInBounds_toArray, List.set_cons_succ, List.set_cons_zero]
          go_wp2
          go_ret
          exact ⟨_, rfl, HD_9.out, by rw [HN.out]; exact hS_9.1⟩
      · skip
        refine wpOp_run rfl (by kernel_rfl) (.pointer (some ⟨u2.heap.size, 0, none⟩)) (u2.alloc (.cells #[.slice none 0 0, .slice none 0 0] bkt)) (by kernel_rfl) ?_
        have hL : Below u2.heap.size u2 (u2.alloc (.cells #[.slice none 0 0, .slice none 0 0] bkt)) := below_alloc (Below.refl _ _) (Nat.le_refl _) _
        have hVE : VB (u2.alloc (.cells #[.slice none 0 0, .slice none 0 0] bkt)) u2.heap.size bkt [.slice none 0 0, .slice none 0 0] := heap_alloc_new _ _
        obtain ⟨gE, egE⟩ : ∃ g, u2.heap.size = g := ⟨_, rfl⟩
        rw [egE] at hVE ⊢
        generalize u2.alloc (.cells #[.slice none 0 0, .slice none 0 0] bkt) = u10 at hL hVE ⊢
        have HA_10 := Lib.hid (HA_2.out.under hL)
        have HB_10 := Lib.hid (HB_2.out.below hL)
        have HE_10 := Lib.hid hVE
        have hNE : N + 1 ≤ gE := by omega
        clear hVE egE
        have hS_10 : (Below N w u10 ∧ Blk u10 N 53 k) := ⟨below_more hS_2.1 hL (by omega), hS_2.2.below hL (by omega)⟩
        have hw10 : N + 1 ≤ u10.heap.size := Nat.le_trans hw2 hL.size
        refine ⟨hS_10, ?_⟩
        clear hL hS_2 hw2
        refine wpAnyH_all (rs := [7]) (by kernel_rfl) (by decide) ?_
        intro i10 hi10
        obtain rfl : i10 = 7 := by simpa using hi10
        refine wpOp_append rfl (by kernel_rfl) hu_sl hu_u8 _ _ rfl (N + 1) _ [u] (by kernel_rfl) HA_10.out ⟨gB, 0, none⟩ code.size cB (sb code) (by kernel_rfl) HB_10.out (by rw [HSL.out]; have := HCS.out; simp; omega) hw10 ?_
        intro vC u11 hOC hGC
        have hL : Below (N + 1) u10 u11 := below_own (Below.refl _ _) hw10 hGC (fun q hq => (HA_10.out.lt q hq).1)
        have HC_11 := Lib.hid (show Own u11 (N + 1) vC (u :: sb code) from hOC)
        have HE_11 := Lib.hid (VB.old HE_10.out hGC (fun ee => ne_own_bk HA_10.out HE_10.out ee))
        clear hOC hGC
        have hS_11 : (Below N w u11 ∧ Blk u11 N 53 k) := ⟨below_more hS_10.1 hL (by omega), hS_10.2.below hL (by omega)⟩
        have hw11 : N + 1 ≤ u11.heap.size := Nat.le_trans hw10 hL.size
        refine ⟨hS_11, ?_⟩
        clear hL hS_10 hw10
        refine wpAnyH_all (rs := [8]) (by kernel_rfl) (by decide) ?_
        intro i11 hi11
        obtain rfl : i11 = 8 := by simpa using hi11
        refine wpOp_enterE rfl (by kernel_rfl) 25 #[.int .i64 1, .slice (some ⟨N, 0, none⟩) 16 16, .agg #[.slice none 0 0, .slice none 0 0], vC] (fun v w9 => ∃ vd, v = .tuple #[.agg #[.slice none 0 0, .slice none 0 0], vd, .bool true] ∧ SlB w9 vd (ptag k u code) ∧ (∀ q, vd.ownBlock = some q → u11.heap.size ≤ q) ∧ Below u11.heap.size u11 w9) (by kernel_rfl) ((rCmac1_any _ _ k (u :: sb code) (.slice none 0 0) (.slice none 0 0) u11 ⟨_, _, _, rfl⟩ ⟨_, _, _, rfl⟩ (Blk.slB hS_11.2 HK.out (by decide)) (.inl HK.out) HC_11.out.slB (by simp only [List.length_cons, HSL.out]; have := HCS.out; omega)).mono fun e w9 ⟨vd, q1, q2, q3, q4⟩ => ⟨_, q1, vd, rfl, q2, q3, q4⟩) ?_
        rintro vr u12 ⟨vd, rfl, hD, hDf, hL⟩
        have HC_12 := Lib.hid (HC_11.out.under hL)
        have HE_12 := Lib.hid (VB.next HE_11.out hL)
        have HD_12 := Lib.hid hD
        have HDf := Lib.hid (show vd.ownBlock ≠ some gE from fun ee => absurd (hDf gE ee) (by have := VB.lt HE_11.out; omega))
        clear hD hDf
        have hS_12 : (Below N w u12 ∧ Blk u12 N 53 k) := ⟨below_more hS_11.1 hL (by omega), hS_11.2.below hL (by omega)⟩
        have hw12 : N + 1 ≤ u12.heap.size := Nat.le_trans hw11 hL.size
        refine ⟨hS_12, ?_⟩
        clear hL hS_11 hw11
        refine wpAnyH_take (i := 9) rfl (by kernel_rfl) (by kernel_rfl) (by kernel_rfl) (fun _ _ _ h => h) (yields_val (by kernel_rfl) (.tuple #[.agg #[.slice none 0 0, .slice none 0 0], vd, .bool true]) (fun w => by kernel_rfl)) hS_12 ?_
        refine wpAnyH_take (i := 10) rfl (by kernel_rfl) (by kernel_rfl) (by kernel_rfl) (fun _ _ _ h => h) (yields_val (by kernel_rfl) (.agg #[.slice none 0 0, .slice none 0 0]) (fun w => by kernel_rfl)) hS_12 ?_
        refine wpAnyH_take (i := 11) rfl (by kernel_rfl) (by kernel_rfl) (by kernel_rfl) (fun _ _ _ h => h) (yields_val (by kernel_rfl) (vd) (fun w => by kernel_rfl)) hS_12 ?_
        refine wpAnyH_take (i := 12) rfl (by kernel_rfl) (by kernel_rfl) (by kernel_rfl) (fun _ _ _ h => h) (yields_val (by kernel_rfl) (.bool true) (fun w => by kernel_rfl)) hS_12 ?_
        refine wpAnyH_all (rs := [14]) (by kernel_rfl) (by decide) ?_
        intro i12 hi12
        obtain rfl : i12 = 14 := by simpa using hi12
        refine wpOp_storev rfl (by kernel_rfl) bkt _ _ rfl gE bkt 2 [.slice none 0 0, .slice none 0 0] (by kernel_rfl) (by kernel_rfl) (VB.row HE_12.out rfl) (by intro q hq; simp at hq; subst hq; rfl) rfl bkt_i ?_
        intro u13 hBs hGs hss
        have hL : Below (N + 1) u12 u13 := below_new (Below.refl _ _) hw12 hGs hNE
        have HD_13 := Lib.hid (HD_12.out.old hGs (.inr HDf.out))
        have hS_13 : (Below N w u13 ∧ Blk u13 N 53 k) := ⟨below_more hS_12.1 hL (by omega), hS_12.2.below hL (by omega)⟩
        have hw13 : N + 1 ≤ u13.heap.size := Nat.le_trans hw12 hL.size
        refine ⟨hS_13, ?_⟩
        clear hL hS_12 hw12
        refine wpAnyH_take (i := 15) rfl (by kernel_rfl) (by kernel_rfl) (by kernel_rfl) (fun _ _ _ h => h) (yields_val (by kernel_rfl) (vd) (fun w => by kernel_rfl)) hS_13 ?_
        refine wpAnyH_take (i := 16) rfl (by kernel_rfl) (by kernel_rfl) (by kernel_rfl) (fun _ _ _ h => h) (yields_val (by kernel_rfl) (.bool true) (fun w => by kernel_rfl)) hS_13 ?_
        refine wpAnyH_done (by kernel_rfl) ?_ _
        simp only [Act.put, List.getElem_toArray, List.getElem_cons_succ, List.getElem_cons_zero, List.setIfInBounds_toArray, List.set_cons_succ, List.set_cons_zero]
        go_wp2
        go_ret
        exact ⟨_, rfl, HD_13.out, by rw [HN.out]; exact hS_13.1⟩
    · skip
      refine wpOp_run rfl (by kernel_rfl) (.pointer (some ⟨u1.heap.size, 0, none⟩)) (u1.alloc (.cells #[.slice none 0 0, .slice none 0 0] bkt)) (by kernel_rfl) ?_
      have hL : Below u1.heap.size u1 (u1.alloc (.cells #[.slice none 0 0, .slice none 0 0] bkt)) := below_alloc (Below.refl _ _) (Nat.le_refl _) _
      have hVE : VB (u1.alloc (.cells #[.slice none 0 0, .slice none 0 0] bkt)) u1.heap.size bkt [.slice none 0 0, .slice none 0 0] := heap_alloc_new _ _
      obtain ⟨gE, egE⟩ : ∃ g, u1.heap.size = g := ⟨_, rfl⟩
      rw [egE] at hVE ⊢
      generalize u1.alloc (.cells #[.slice none 0 0, .slice none 0 0] bkt) = u14 at hL hVE ⊢
      have HA_14 := Lib.hid (HA_1.out.under hL)
      have HE_14 := Lib.hid hVE
      have hNE : N + 1 ≤ gE := by omega
      clear hVE egE
      have hS_14 : (Below N w u14 ∧ Blk u14 N 53 k) := ⟨below_more hS_1.1 hL (by omega), hS_1.2.below hL (by omega)⟩
      have hw14 : N + 1 ≤ u14.heap.size := Nat.le_trans hw1 hL.size
      refine ⟨hS_14, ?_⟩
      clear hL hS_1 hw1
      refine wpAnyH_all (rs := [6]) (by kernel_rfl) (by decide) ?_
      intro i14 hi14
      obtain rfl : i14 = 6 := by simpa using hi14
      refine wpOp_conv rfl (by kernel_rfl) _ rfl code (by kernel_rfl) ?_
      have hL : Below u14.heap.size u14 (Lib.bytesWorld u14 5 code) := bytes_below _ _ _ _ (Nat.le_refl _)
      have hRB := bytes_rd u14 5 code
      obtain ⟨hc1, hc2⟩ := grown_ok u14 code (by have := HCS.out; omega)
      obtain ⟨gB, egB⟩ : ∃ g, u14.heap.size = g := ⟨_, rfl⟩
      obtain ⟨cB, ecB⟩ : ∃ c, grownCap u14 code.size 0 5 = c := ⟨_, rfl⟩
      rw [egB] at hRB
      rw [ecB] at hc1 hc2
      rw [egB, ecB]
      generalize Lib.bytesWorld u14 5 code = u15 at hL hRB ⊢
      have HA_15 := Lib.hid (HA_14.out.under hL)
      have HE_15 := Lib.hid (VB.next HE_14.out hL)
      have HB_15 := Lib.hid (show SlB u15 (.slice (some ⟨gB, 0, none⟩) code.size cB) (sb code) from ⟨_, cB, by rw [HSL.out], fun h => (by cases h), by rw [HSL.out]; exact hc1, hc2, fun _ => ⟨gB, 0, rfl, hRB⟩⟩)
      clear hRB egB ecB hc1 hc2
      have hS_15 : (Below N w u15 ∧ Blk u15 N 53 k) := ⟨below_more hS_14.1 hL (by omega), hS_14.2.below hL (by omega)⟩
      have hw15 : N + 1 ≤ u15.heap.size := Nat.le_trans hw14 hL.size
      refine ⟨hS_15, ?_⟩
      clear hL hS_14 hw14
      refine wpAnyH_all (rs := [7]) (by kernel_rfl) (by decide) ?_
      intro i15 hi15
      obtain rfl : i15 = 7 := by simpa using hi15
      refine wpOp_append rfl (by kernel_rfl) hu_sl hu_u8 _ _ rfl (N + 1) _ [u] (by kernel_rfl) HA_15.out ⟨gB, 0, none⟩ code.size cB (sb code) (by kernel_rfl) HB_15.out (by rw [HSL.out]; have := HCS.out; simp; omega) hw15 ?_
      intro vC u16 hOC hGC
      have hL : Below (N + 1) u15 u16 := below_own (Below.refl _ _) hw15 hGC (fun q hq => (HA_15.out.lt q hq).1)
      have HC_16 := Lib.hid (show Own u16 (N + 1) vC (u :: sb code) from hOC)
      have HE_16 := Lib.hid (VB.old HE_15.out hGC (fun ee => ne_own_bk HA_15.out HE_15.out ee))
      clear hOC hGC
      have hS_16 : (Below N w u16 ∧ Blk u16 N 53 k) := ⟨below_more hS_15.1 hL (by omega), hS_15.2.below hL (by omega)⟩
      have hw16 : N + 1 ≤ u16.heap.size := Nat.le_trans hw15 hL.size
      refine ⟨hS_16, ?_⟩
      clear hL hS_15 hw15
      refine wpAnyH_all (rs := [8]) (by kernel_rfl) (by decide) ?_
      intro i16 hi16
      obtain rfl : i16 = 8 := by simpa using hi16
      refine wpOp_enterE rfl (by kernel_rfl) 25 #[.int .i64 1, .slice (some ⟨N, 0, none⟩) 16 16, .agg #[.slice none 0 0, .slice none 0 0], vC] (fun v w9 => ∃ vd, v = .tuple #[.agg #[.slice none 0 0, .slice none 0 0], vd, .bool true] ∧ SlB w9 vd (ptag k u code) ∧ (∀ q, vd.ownBlock = some q → u16.heap.size ≤ q) ∧ Below u16.heap.size u16 w9) (by kernel_rfl) ((rCmac1_any _ _ k (u :: sb code) (.slice none 0 0) (.slice none 0 0) u16 ⟨_, _, _, rfl⟩ ⟨_, _, _, rfl⟩ (Blk.slB hS_16.2 HK.out (by decide)) (.inl HK.out) HC_16.out.slB (by simp only [List.length_cons, HSL.out]; have := HCS.out; omega)).mono fun e w9 ⟨vd, q1, q2, q3, q4⟩ => ⟨_, q1, vd, rfl, q2, q3, q4⟩) ?_
      rintro vr u17 ⟨vd, rfl, hD, hDf, hL⟩
      have HC_17 := Lib.hid (HC_16.out.under hL)
      have HE_17 := Lib.hid (VB.next HE_16.out hL)
      have HD_17 := Lib.hid hD
      have HDf := Lib.hid (show vd.ownBlock ≠ some gE from fun ee => absurd (hDf gE ee) (by have := VB.lt HE_16.out; omega))
      clear hD hDf
      have hS_17 : (Below N w u17 ∧ Blk u17 N 53 k) := ⟨below_more hS_16.1 hL (by omega), hS_16.2.below hL (by omega)⟩
      have hw17 : N + 1 ≤ u17.heap.size := Nat.le_trans hw16 hL.size
      refine ⟨hS_17, ?_⟩
      clear hL hS_16 hw16
      refine wpAnyH_take (i := 9) rfl (by kernel_rfl) (by kernel_rfl) (by kernel_rfl) (fun _ _ _ h => h) (yields_val (by kernel_rfl) (.tuple #[.agg #[.slice none 0 0, .slice none 0 0], vd, .bool true]) (fun w => by kernel_rfl)) hS_17 ?_
      refine wpAnyH_take (i := 10) rfl (by kernel_rfl) (by kernel_rfl) (by kernel_rfl) (fun _ _ _ h => h) (yields_val (by kernel_rfl) (.agg #[.slice none 0 0, .slice none 0 0]) (fun w => by kernel_rfl)) hS_17 ?_
      refine wpAnyH_take (i := 11) rfl (by kernel_rfl) (by kernel_rfl) (by kernel_rfl) (fun _ _ _ h => h) (yields_val (by kernel_rfl) (vd) (fun w => by kernel_rfl)) hS_17 ?_
      refine wpAnyH_take (i := 12) rfl (by kernel_rfl) (by kernel_rfl) (by kernel_rfl) (fun _ _ _ h => h) (yields_val (by kernel_rfl) (.bool true) (fun w => by kernel_rfl)) hS_17 ?_
      refine wpAnyH_all (rs := [14]) (by kernel_rfl) (by decide) ?_
      intro i17 hi17
      obtain rfl : i17 = 14 := by simpa using hi17
      refine wpOp_storev rfl (by kernel_rfl) bkt _ _ rfl gE bkt 2 [.slice none 0 0, .slice none 0 0] (by kernel_rfl) (by kernel_rfl) (VB.row HE_17.out rfl) (by intro q hq; simp at hq; subst hq; rfl) rfl bkt_i ?_
      intro u18 hBs hGs hss
      have hL : Below (N + 1) u17 u18 := below_new (Below.refl _ _) hw17 hGs hNE
      have HD_18 := Lib.hid (HD_17.out.old hGs (.inr HDf.out))
      have hS_18 : (Below N w u18 ∧ Blk u18 N 53 k) := ⟨below_more hS_17.1 hL (by omega), hS_17.2.below hL (by omega)⟩
      have hw18 : N + 1 ≤ u18.heap.size := Nat.le_trans hw17 hL.size
      refine ⟨hS_18, ?_⟩
      clear hL hS_17 hw17
      refine wpAnyH_take (i := 15) rfl (by kernel_rfl) (by kernel_rfl) (by kernel_rfl) (fun _ _ _ h => h) (yields_val (by kernel_rfl) (vd) (fun w => by kernel_rfl)) hS_18 ?_
      refine wpAnyH_take (i := 16) rfl (by kernel_rfl) (by kernel_rfl) (by kernel_rfl) (fun _ _ _ h => h) (yields_val (by kernel_rfl) (.bool true) (fun w => by kernel_rfl)) hS_18 ?_
      refine wpAnyH_done (by kernel_rfl) ?_ _
      simp only [Act.put, List.getElem_toArray, List.getElem_cons_succ, List.getElem_cons_zero, List.setIfInBounds_toArray, List.set_cons_succ, List.set_cons_zero]
      go_wp2
      go_ret
      exact ⟨_, rfl, HD_18.out, by rw [HN.out]; exact hS_18.1⟩
  · skip
    refine wpOp_conv rfl (by kernel_rfl) _ rfl code (by kernel_rfl) ?_
    have hL : Below u0.heap.size u0 (Lib.bytesWorld u0 5 code) := bytes_below _ _ _ _ (Nat.le_refl _)
    have hRB := bytes_rd u0 5 code
    obtain ⟨hc1, hc2⟩ := grown_ok u0 code (by have := HCS.out; omega)
    obtain ⟨gB, egB⟩ : ∃ g, u0.heap.size = g := ⟨_, rfl⟩
    obtain ⟨cB, ecB⟩ : ∃ c, grownCap u0 code.size 0 5 = c := ⟨_, rfl⟩
    rw [egB] at hRB
    rw [ecB] at hc1 hc2
    rw [egB, ecB]
    generalize Lib.bytesWorld u0 5 code = u19 at hL hRB ⊢
    have HB_19 := Lib.hid (show SlB u19 (.slice (some ⟨gB, 0, none⟩) code.size cB) (sb code) from ⟨_, cB, by rw [HSL.out], fun h => (by cases h), by rw [HSL.out]; exact hc1, hc2, fun _ => ⟨gB, 0, rfl, hRB⟩⟩)
    clear hRB egB ecB hc1 hc2
    have hS_19 : (Below N w u19 ∧ Blk u19 N 53 k) := ⟨below_more hS_0.1 hL (by omega), hS_0.2.below hL (by omega)⟩
    have hw19 : N + 1 ≤ u19.heap.size := Nat.le_trans hw0 hL.size
    refine ⟨hS_19, ?_⟩
    clear hL hS_0 hw0
    refine wpAnyH_all (rs := [4, 13]) (by kernel_rfl) (by decide) ?_
    intro i19 hi19
    simp only [List.mem_cons, List.not_mem_nil, or_false] at hi19
    rcases hi19 with rfl | rfl
    · skip
      refine wpOp_run rfl (by kernel_rfl) (.slice (some ⟨u19.heap.size, 0, none⟩) 1 1) (u19.alloc (.cells (Bs [u]) u8t)) (by kernel_rfl) ?_
      have hL : Below u19.heap.size u19 (u19.alloc (.cells (Bs [u]) u8t)) := below_alloc (Below.refl _ _) (Nat.le_refl _) _
      have hOA := own_lit u19 (N + 1) [u] hw19 (by simp)
      obtain ⟨gA, egA⟩ : ∃ g, u19.heap.size = g := ⟨_, rfl⟩
      rw [egA] at hOA ⊢
      generalize u19.alloc (.cells (Bs [u]) u8t) = u20 at hL hOA ⊢
      have HB_20 := Lib.hid (HB_19.out.below hL)
      have HA_20 := Lib.hid (show Own u20 (N + 1) (.slice (some ⟨gA, 0, none⟩) 1 1) [u] from hOA)
      clear hOA egA
      have hS_20 : (Below N w u20 ∧ Blk u20 N 53 k) := ⟨below_more hS_19.1 hL (by omega), hS_19.2.below hL (by omega)⟩
      have hw20 : N + 1 ≤ u20.heap.size := Nat.le_trans hw19 hL.size
      refine ⟨hS_20, ?_⟩
      clear hL hS_19 hw19
      refine wpAnyH_all (rs := [7, 13]) (by kernel_rfl) (by decide) ?_
      intro i20 hi20
      simp only [List.mem_cons, List.not_mem_nil, or_false] at hi20
      rcases hi20 with rfl | rfl
      · skip
        refine wpOp_append rfl (by kernel_rfl) hu_sl hu_u8 _ _ rfl (N + 1) _ [u] (by kernel_rfl) HA_20.out ⟨gB, 0, none⟩ code.size cB (sb code) (by kernel_rfl) HB_20.out (by rw [HSL.out]; have := HCS.out; simp; omega) hw20 ?_
        intro vC u21 hOC hGC
        have hL : Below (N + 1) u20 u21 := below_own (Below.refl _ _) hw20 hGC (fun q hq => (HA_20.out.lt q hq).1)
        have HC_21 := Lib.hid (show Own u21 (N + 1) vC (u :: sb code) from hOC)
        clear hOC hGC
        have hS_21 : (Below N w u21 ∧ Blk u21 N 53 k) := ⟨below_more hS_20.1 hL (by omega), hS_20.2.below hL (by omega)⟩
        have hw21 : N + 1 ≤ u21.heap.size := Nat.le_trans hw20 hL.size
        refine ⟨hS_21, ?_⟩
        clear hL hS_20 hw20
        refine wpAnyH_all (rs := [8, 13]) (by kernel_rfl) (by decide) ?_
        intro i21 hi21
        simp only [List.mem_cons, List.not_mem_nil, or_false] at hi21
        rcases hi21 with rfl | rfl
        · skip
          refine wpOp_enterE rfl (by kernel_rfl) 25 #[.int .i64 1, .slice (some ⟨N, 0, none⟩) 16 16, .agg #[.slice none 0 0, .slice none 0 0], vC] (fun v w9 => ∃ vd, v = .tuple #[.agg #[.slice none 0 0, .slice none 0 0], vd, .bool true] ∧ SlB w9 vd (ptag k u code) ∧ (∀ q, vd.ownBlock = some q → u21.heap.size ≤ q) ∧ Below u21.heap.size u21 w9) (by kernel_rfl) ((rCmac1_any _ _ k (u :: sb code) (.slice none 0 0) (.slice none 0 0) u21 ⟨_, _, _, rfl⟩ ⟨_, _, _, rfl⟩ (Blk.slB hS_21.2 HK.out (by decide)) (.inl HK.out) HC_21.out.slB (by simp only [List.length_cons, HSL.out]; have := HCS.out; omega)).mono fun e w9 ⟨vd, q1, q2, q3, q4⟩ => ⟨_, q1, vd, rfl, q2, q3, q4⟩) ?_
          rintro vr u22 ⟨vd, rfl, hD, hDf, hL⟩
          have HC_22 := Lib.hid (HC_21.out.under hL)
          have HD_22 := Lib.hid hD
          clear hD hDf
          have hS_22 : (Below N w u22 ∧ Blk u22 N 53 k) := ⟨below_more hS_21.1 hL (by omega), hS_21.2.below hL (by omega)⟩
          have hw22 : N + 1 ≤ u22.heap.size := Nat.le_trans hw21 hL.size
          refine ⟨hS_22, ?_⟩
          clear hL hS_21 hw21
          refine wpAnyH_take (i := 9) rfl (by kernel_rfl) (by kernel_rfl) (by kernel_rfl) (fun _ _ _ h => h) (yields_val (by kernel_rfl) (.tuple #[.agg #[.slice none 0 0, .slice none 0 0], vd, .bool true]) (fun w => by kernel_rfl)) hS_22 ?_
          refine wpAnyH_take (i := 10) rfl (by kernel_rfl) (by kernel_rfl) (by kernel_rfl) (fun _ _ _ h => h) (yields_val (by kernel_rfl) (.agg #[.slice none 0 0, .slice none 0 0]) (fun w => by kernel_rfl)) hS_22 ?_
          refine wpAnyH_take (i := 11) rfl (by kernel_rfl) (by kernel_rfl) (by kernel_rfl) (fun _ _ _ h => h) (yields_val (by kernel_rfl) (vd) (fun w => by kernel_rfl)) hS_22 ?_
          refine wpAnyH_take (i := 12) rfl (by kernel_rfl) (by kernel_rfl) (by kernel_rfl) (fun _ _ _ h => h) (yields_val (by kernel_rfl) (.bool true) (fun w => by kernel_rfl)) hS_22 ?_
          refine wpAnyH_all (rs := [13]) (by kernel_rfl) (by decide) ?_
          intro i22 hi22
          obtain rfl : i22 = 13 := by simpa using hi22
          refine wpOp_run rfl (by kernel_rfl) (.pointer (some ⟨u22.heap.size, 0, none⟩)) (u22.alloc (.cells #[.slice none 0 0, .slice none 0 0] bkt)) (by kernel_rfl) ?_
          have hL : Below u22.heap.size u22 (u22.alloc (.cells #[.slice none 0 0, .slice none 0 0] bkt)) := below_alloc (Below.refl _ _) (Nat.le_refl _) _
          have hVE : VB (u22.alloc (.cells #[.slice none 0 0, .slice none 0 0] bkt)) u22.heap.size bkt [.slice none 0 0, .slice none 0 0] := heap_alloc_new _ _
          obtain ⟨gE, egE⟩ : ∃ g, u22.heap.size = g := ⟨_, rfl⟩
          rw [egE] at hVE ⊢
          generalize u22.alloc (.cells #[.slice none 0 0, .slice none 0 0] bkt) = u23 at hL hVE ⊢
          have HD_23 := Lib.hid (HD_22.out.below hL)
          have HE_23 := Lib.hid hVE
          have hNE : N + 1 ≤ gE := by omega
          have HDf := Lib.hid (show vd.ownBlock ≠ some gE from fun ee => absurd (HD_22.out.lt (by rw [ptag_len]; decide) gE ee) (by omega))
          clear hVE egE
          have hS_23 : (Below N w u23 ∧ Blk u23 N 53 k) := ⟨below_more hS_22.1 hL (by omega), hS_22.2.below hL (by omega)⟩
          have hw23 : N + 1 ≤ u23.heap.size := Nat.le_trans hw22 hL.size
          refine ⟨hS_23, ?_⟩
          clear hL hS_22 hw22
          refine wpAnyH_all (rs := [14]) (by kernel_rfl) (by decide) ?_
          intro i23 hi23
          obtain rfl : i23 = 14 := by simpa using hi23
          refine wpOp_storev rfl (by kernel_rfl) bkt _ _ rfl gE bkt 2 [.slice none 0 0, .slice none 0 0] (by kernel_rfl) (by kernel_rfl) (VB.row HE_23.out rfl) (by intro q hq; simp at hq; subst hq; rfl) rfl bkt_i ?_
          intro u24 hBs hGs hss
          have hL : Below (N + 1) u23 u24 := below_new (Below.refl _ _) hw23 hGs hNE
          have HD_24 := Lib.hid (HD_23.out.old hGs (.inr HDf.out))
          have hS_24 : (Below N w u24 ∧ Blk u24 N 53 k) := ⟨below_more hS_23.1 hL (by omega), hS_23.2.below hL (by omega)⟩
          have hw24 : N + 1 ≤ u24.heap.size := Nat.le_trans hw23 hL.size
          refine ⟨hS_24, ?_⟩
          clear hL hS_23 hw23
          refine wpAnyH_take (i := 15) rfl (by kernel_rfl) (by kernel_rfl) (by kernel_rfl) (fun _ _ _ h => h) (yields_val (by kernel_rfl) (vd) (fun w => by kernel_rfl)) hS_24 ?_
          refine wpAnyH_take (i := 16) rfl (by kernel_rfl) (by kernel_rfl) (by kernel_rfl) (fun _ _ _ h => h) (yields_val (by kernel_rfl) (.bool true) (fun w => by kernel_rfl)) hS_24 ?_
          refine wpAnyH_done (by kernel_rfl) ?_ _
          simp only [Act.put, List.getElem_toArray, List.getElem_cons_succ, List.getElem_cons_zero, List.setIfInBounds_toArray, List.set_cons_succ, List.set_cons_zero]
          go_wp2
          go_ret
          exact ⟨_, rfl, HD_24.out, by rw [HN.out]; exact hS_24.1⟩
        · skip
          refine wpOp_run rfl (by kernel_rfl) (.pointer (some ⟨u21.heap.size, 0, none⟩)) (u21.alloc (.cells #[.slice none 0 0, .slice none 0 0] bkt)) (by kernel_rfl) ?_
          have hL : Below u21.heap.size u21 (u21.alloc (.cells #[.slice none 0 0, .slice none 0 0] bkt)) := below_alloc (Below.refl _ _) (Nat.le_refl _) _
          have hVE : VB (u21.alloc (.cells #[.slice none 0 0, .slice none 0 0] bkt)) u21.heap.size bkt [.slice none 0 0, .slice none 0 0] := heap_alloc_new _ _
          obtain ⟨gE, egE⟩ : ∃ g, u21.heap.size = g := ⟨_, rfl⟩
          rw [egE] at hVE ⊢
          generalize u21.alloc (.cells #[.slice none 0 0, .slice none 0 0] bkt) = u25 at hL hVE ⊢
          have HC_25 := Lib.hid (HC_21.out.under hL)
          have HE_25 := Lib.hid hVE
          have hNE : N + 1 ≤ gE := by omega
          clear hVE egE
          have hS_25 : (Below N w u25 ∧ Blk u25 N 53 k) := ⟨below_more hS_21.1 hL (by omega), hS_21.2.below hL (by omega)⟩
          have hw25 : N + 1 ≤ u25.heap.size := Nat.le_trans hw21 hL.size
          refine ⟨hS_25, ?_⟩
          clear hL hS_21 hw21
          refine wpAnyH_all (rs := [8]) (by kernel_rfl) (by decide) ?_
          intro i25 hi25
          obtain rfl : i25 = 8 := by simpa using hi25
          refine wpOp_enterE rfl (by kernel_rfl) 25 #[.int .i64 1, .slice (some ⟨N, 0, none⟩) 16 16, .agg #[.slice none 0 0, .slice none 0 0], vC] (fun v w9 => ∃ vd, v = .tuple #[.agg #[.slice none 0 0, .slice none 0 0], vd, .bool true] ∧ SlB w9 vd (ptag k u code) ∧ (∀ q, vd.ownBlock = some q → u25.heap.size ≤ q) ∧ Below u25.heap.size u25 w9) (by kernel_rfl) ((rCmac1_any _ _ k (u :: sb code) (.slice none 0 0) (.slice none 0 0) u25 ⟨_, _, _, rfl⟩ ⟨_, _, _, rfl⟩ (Blk.slB hS_25.2 HK.out (by decide)) (.inl HK.out) HC_25.out.slB (by simp only [List.length_cons, HSL.out]; have := HCS.out; omega)).mono fun e w9 ⟨vd, q1, q2, q3, q4⟩ => ⟨_, q1, vd, rfl, q2, q3, q4⟩) ?_
          rintro vr u26 ⟨vd, rfl, hD, hDf, hL⟩
          have HC_26 := Lib.hid (HC_25.out.under hL)
          have HE_26 := Lib.hid (VB.next HE_25.out hL)
          have HD_26 := Lib.hid hD
          have HDf := Lib.hid (show vd.ownBlock ≠ some gE from fun ee => absurd (hDf gE ee) (by have := VB.lt HE_25.out; omega))
          clear hD hDf
          have hS_26 : (Below N w u26 ∧ Blk u26 N 53 k) := ⟨below_more hS_25.1 hL (by omega), hS_25.2.below hL (by omega)⟩
          have hw26 : N + 1 ≤ u26.heap.size := Nat.le_trans hw25 hL.size
          refine ⟨hS_26, ?_⟩
          clear hL hS_25 hw25
          refine wpAnyH_take (i := 9) rfl (by kernel_rfl) (by kernel_rfl) (by kernel_rfl) (fun _ _ _ h => h) (yields_val (by kernel_rfl) (.tuple #[.agg #[.slice none 0 0, .slice none 0 0], vd, .bool true]) (fun w => by kernel_rfl)) hS_26 ?_
          refine wpAnyH_take (i := 10) rfl (by kernel_rfl) (by kernel_rfl) (by kernel_rfl) (fun _ _ _ h => h) (yields_val (by kernel_rfl) (.agg #[.slice none 0 0, .slice none 0 0]) (fun w => by kernel_rfl)) hS_26 ?_
          refine wpAnyH_take (i := 11) rfl (by kernel_rfl) (by kernel_rfl) (by kernel_rfl) (fun _ _ _ h => h) (yields_val (by kernel_rfl) (vd) (fun w => by kernel_rfl)) hS_26 ?_
          refine wpAnyH_take (i := 12) rfl (by kernel_rfl) (by kernel_rfl) (by kernel_rfl) (fun _ _ _ h => h) (yields_val (by kernel_rfl) (.bool true) (fun w => by kernel_rfl)) hS_26 ?_
          refine wpAnyH_all (rs := [14]) (by kernel_rfl) (by decide) ?_
          intro i26 hi26
          obtain rfl : i26 = 14 := by simpa using hi26
          refine wpOp_storev rfl (by kernel_rfl) bkt _ _ rfl gE bkt 2 [.slice none 0 0, .slice none 0 0] (by kernel_rfl) (by kernel_rfl) (VB.row HE_26.out rfl) (by intro q hq; simp at hq; subst hq; rfl) rfl bkt_i ?_
          intro u27 hBs hGs hss
          have hL : Below (N + 1) u26 u27 := below_new (Below.refl _ _) hw26 hGs hNE
          have HD_27 := Lib.hid (HD_26.out.old hGs (.inr HDf.out))
          have hS_27 : (Below N w u27 ∧ Blk u27 N 53 k) := ⟨below_more hS_26.1 hL (by omega), hS_26.2.below hL (by omega)⟩
          have hw27 : N + 1 ≤ u27.heap.size := Nat.le_trans hw26 hL.size
          refine ⟨hS_27, ?_⟩
          clear hL hS_26 hw26
          refine wpAnyH_take (i := 15) rfl (by kernel_rfl) (by kernel_rfl) (by kernel_rfl) (fun _ _ _ h => h) (yields_val (by kernel_rfl) (vd) (fun w => by kernel_rfl)) hS_27 ?_
          refine wpAnyH_take (i := 16) rfl (by kernel_rfl) (by kernel_rfl) (by kernel_rfl) (fun _ _ _ h => h) (yields_val (by kernel_rfl) (.bool true) (fun w => by kernel_rfl)) hS_27 ?_
          refine wpAnyH_done (by kernel_rfl) ?_ _
          simp only [Act.put, List.getElem_toArray, List.getElem_cons_succ, List.getElem_cons_zero, List.setIfInBounds_toArray, List.set_cons_succ, List.set_cons_zero]
          go_wp2
          go_ret
          exact ⟨_, rfl, HD_27.out, by rw [HN.out]; exact hS_27.1⟩
      · skip
        refine wpOp_run rfl (by kernel_rfl) (.pointer (some ⟨u20.heap.size, 0, none⟩)) (u20.alloc (.cells #[.slice none 0 0, .slice none 0 0] bkt)) (by kernel_rfl) ?_
        have hL : Below u20.heap.size u20 (u20.alloc (.cells #[.slice none 0 0, .slice none 0 0] bkt)) := below_alloc (Below.refl _ _) (Nat.le_refl _) _
        have hVE : VB (u20.alloc (.cells #[.slice none 0 0, .slice none 0 0] bkt)) u20.heap.size bkt [.slice none 0 0, .slice none 0 0] := heap_alloc_new _ _
        obtain ⟨gE, egE⟩ : ∃ g, u20.heap.size = g := ⟨_, rfl⟩
        rw [egE] at hVE ⊢
        generalize u20.alloc (.cells #[.slice none 0 0, .slice none 0 0] bkt) = u28 at hL hVE ⊢
        have HA_28 := Lib.hid (HA_20.out.under hL)
        have HB_28 := Lib.hid (HB_20.out.below hL)
        have HE_28 := Lib.hid hVE
        have hNE : N + 1 ≤ gE := by omega
        clear hVE egE
        have hS_28 : (Below N w u28 ∧ Blk u28 N 53 k) := ⟨below_more hS_20.1 hL (by omega), hS_20.2.below hL (by omega)⟩
        have hw28 : N + 1 ≤ u28.heap.size := Nat.le_trans hw20 hL.size
        refine ⟨hS_28, ?_⟩
        clear hL hS_20 hw20
        refine wpAnyH_all (rs := [7]) (by kernel_rfl) (by decide) ?_
        intro i28 hi28
        obtain rfl : i28 = 7 := by simpa using hi28
        refine wpOp_append rfl (by kernel_rfl) hu_sl hu_u8 _ _ rfl (N + 1) _ [u] (by kernel_rfl) HA_28.out ⟨gB, 0, none⟩ code.size cB (sb code) (by kernel_rfl) HB_28.out (by rw [HSL.out]; have := HCS.out; simp; omega) hw28 ?_
        intro vC u29 hOC hGC
        have hL : Below (N + 1) u28 u29 := below_own (Below.refl _ _) hw28 hGC (fun q hq => (HA_28.out.lt q hq).1)
        have HC_29 := Lib.hid (show Own u29 (N + 1) vC (u :: sb code) from hOC)
        have HE_29 := Lib.hid (VB.old HE_28.out hGC (fun ee => ne_own_bk HA_28.out HE_28.out ee))
        clear hOC hGC
        have hS_29 : (Below N w u29 ∧ Blk u29 N 53 k) := ⟨below_more hS_28.1 hL (by omega), hS_28.2.below hL (by omega)⟩
        have hw29 : N + 1 ≤ u29.heap.size := Nat.le_trans hw28 hL.size
        refine ⟨hS_29, ?_⟩
        clear hL hS_28 hw28
        refine wpAnyH_all (rs := [8]) (by kernel_rfl) (by decide) ?_
        intro i29 hi29
        obtain rfl : i29 = 8 := by simpa using hi29
        refine wpOp_enterE rfl (by kernel_rfl) 25 #[.int .i64 1, .slice (some ⟨N, 0, none⟩) 16 16, .agg #[.slice none 0 0, .slice none 0 0], vC] (fun v w9 => ∃ vd, v = .tuple #[.agg #[.slice none 0 0, .slice none 0 0], vd, .bool true] ∧ SlB w9 vd (ptag k u code) ∧ (∀ q, vd.ownBlock = some q → u29.heap.size ≤ q) ∧ Below u29.heap.size u29 w9) (by kernel_rfl) ((rCmac1_any _ _ k (u :: sb code) (.slice none 0 0) (.slice none 0 0) u29 ⟨_, _, _, rfl⟩ ⟨_, _, _, rfl⟩ (Blk.slB hS_29.2 HK.out (by decide)) (.inl HK.out) HC_29.out.slB (by simp only [List.length_cons, HSL.out]; have := HCS.out; omega)).mono fun e w9 ⟨vd, q1, q2, q3, q4⟩ => ⟨_, q1, vd, rfl, q2, q3, q4⟩) ?_
        rintro vr u30 ⟨vd, rfl, hD, hDf, hL⟩
        have HC_30 := Lib.hid (HC_29.out.under hL)
        have HE_30 := Lib.hid (VB.next HE_29.out hL)
        have HD_30 := Lib.hid hD
        have HDf := Lib.hid (show vd.ownBlock ≠ some gE from fun ee => absurd (hDf gE ee) (by have := VB.lt HE_29.out; omega))
        clear hD hDf
        have hS_30 : (Below N w u30 ∧ Blk u30 N 53 k) := ⟨below_more hS_29.1 hL (by omega), hS_29.2.below hL (by omega)⟩
        have hw30 : N + 1 ≤ u30.heap.size := Nat.le_trans hw29 hL.size
        refine ⟨hS_30, ?_⟩
        clear hL hS_29 hw29
        refine wpAnyH_take (i := 9) rfl (by kernel_rfl) (by kernel_rfl) (by kernel_rfl) (fun _ _ _ h => h) (yields_val (by kernel_rfl) (.tuple #[.agg #[.slice none 0 0, .slice none 0 0], vd, .bool true]) (fun w => by kernel_rfl)) hS_30 ?_
        refine wpAnyH_take (i := 10) rfl (by kernel_rfl) (by kernel_rfl) (by kernel_rfl) (fun _ _ _ h => h) (yields_val (by kernel_rfl) (.agg #[.slice none 0 0, .slice none 0 0]) (fun w => by kernel_rfl)) hS_30 ?_
        refine wpAnyH_take (i := 11) rfl (by kernel_rfl) (by kernel_rfl) (by kernel_rfl) (fun _ _ _ h => h) (yields_val (by kernel_rfl) (vd) (fun w => by kernel_rfl)) hS_30 ?_
        refine wpAnyH_take (i := 12) rfl (by kernel_rfl) (by kernel_rfl) (by kernel_rfl) (fun _ _ _ h => h) (yields_val (by kernel_rfl) (.bool true) (fun w => by kernel_rfl)) hS_30 ?_
        refine wpAnyH_all (rs := [14]) (by kernel_rfl) (by decide) ?_
        intro i30 hi30
        obtain rfl : i30 = 14 := by simpa using hi30
        refine wpOp_storev rfl (by kernel_rfl) bkt _ _ rfl gE bkt 2 [.slice none 0 0, .slice none 0 0] (by kernel_rfl) (by kernel_rfl) (VB.row HE_30.out rfl) (by intro q hq; simp at hq; subst hq; rfl) rfl bkt_i ?_
        intro u31 hBs hGs hss
        have hL : Below (N + 1) u30 u31 := below_new (Below.refl _ _) hw30 hGs hNE
        have HD_31 := Lib.hid (HD_30.out.old hGs (.inr HDf.out))
        have hS_31 : (Below N w u31 ∧ Blk u31 N 53 k) := ⟨below_more hS_30.1 hL (by omega), hS_30.2.below hL (by omega)⟩
        have hw31 : N + 1 ≤ u31.heap.size := Nat.le_trans hw30 hL.size
        refine ⟨hS_31, ?_⟩
        clear hL hS_30 hw30
        refine wpAnyH_take (i := 15) rfl (by kernel_rfl) (by kernel_rfl) (by kernel_rfl) (fun _ _ _ h => h) (yields_val (by kernel_rfl) (vd) (fun w => by kernel_rfl)) hS_31 ?_
        refine wpAnyH_take (i := 16) rfl (by kernel_rfl) (by kernel_rfl) (by kernel_rfl) (fun _ _ _ h => h) (yields_val (by kernel_rfl) (.bool true) (fun w => by kernel_rfl)) hS_31 ?_
        refine wpAnyH_done (by kernel_rfl) ?_ _
        simp only [Act.put, List.getElem_toArray, List.getElem_cons_succ, List.getElem_cons_zero, List.setIfInBounds_toArray, List.set_cons_succ, List.set_cons_zero]
        go_wp2
        go_ret
        exact ⟨_, rfl, HD_31.out, by rw [HN.out]; exact hS_31.1⟩
    · skip
      refine wpOp_run rfl (by kernel_rfl) (.pointer (some ⟨u19.heap.size, 0, none⟩)) (u19.alloc (.cells #[.slice none 0 0, .slice none 0 0] bkt)) (by kernel_rfl) ?_
      have hL : Below u19.heap.size u19 (u19.alloc (.cells #[.slice none 0 0, .slice none 0 0] bkt)) := below_alloc (Below.refl _ _) (Nat.le_refl _) _
      have hVE : VB (u19.alloc (.cells #[.slice none 0 0, .slice none 0 0] bkt)) u19.heap.size bkt [.slice none 0 0, .slice none 0 0] := heap_alloc_new _ _
      obtain ⟨gE, egE⟩ : ∃ g, u19.heap.size = g := ⟨_, rfl⟩
      rw [egE] at hVE ⊢
      generalize u19.alloc (.cells #[.slice none 0 0, .slice none 0 0] bkt) = u32 at hL hVE ⊢
      have HB_32 := Lib.hid (HB_19.out.below hL)
      have HE_32 := Lib.hid hVE
      have hNE : N + 1 ≤ gE := by omega
      clear hVE egE
      have hS_32 : (Below N w u32 ∧ Blk u32 N 53 k) := ⟨below_more hS_19.1 hL (by omega), hS_19.2.below hL (by omega)⟩
      have hw32 : N + 1 ≤ u32.heap.size := Nat.le_trans hw19 hL.size
      refine ⟨hS_32, ?_⟩
      clear hL hS_19 hw19
      refine wpAnyH_all (rs := [4]) (by kernel_rfl) (by decide) ?_
      intro i32 hi32
      obtain rfl : i32 = 4 := by simpa using hi32
      refine wpOp_run rfl (by kernel_rfl) (.slice (some ⟨u32.heap.size, 0, none⟩) 1 1) (u32.alloc (.cells (Bs [u]) u8t)) (by kernel_rfl) ?_
      have hL : Below u32.heap.size u32 (u32.alloc (.cells (Bs [u]) u8t)) := below_alloc (Below.refl _ _) (Nat.le_refl _) _
      have hOA := own_lit u32 (N + 1) [u] hw32 (by simp)
      obtain ⟨gA, egA⟩ : ∃ g, u32.heap.size = g := ⟨_, rfl⟩
      rw [egA] at hOA ⊢
      generalize u32.alloc (.cells (Bs [u]) u8t) = u33 at hL hOA ⊢
      have HB_33 := Lib.hid (HB_32.out.below hL)
      have HE_33 := Lib.hid (VB.next HE_32.out hL)
      have HA_33 := Lib.hid (show Own u33 (N + 1) (.slice (some ⟨gA, 0, none⟩) 1 1) [u] from hOA)
      clear hOA egA
      have hS_33 : (Below N w u33 ∧ Blk u33 N 53 k) := ⟨below_more hS_32.1 hL (by omega), hS_32.2.below hL (by omega)⟩
      have hw33 : N + 1 ≤ u33.heap.size := Nat.le_trans hw32 hL.size
      refine ⟨hS_33, ?_⟩
      clear hL hS_32 hw32
      refine wpAnyH_all (rs := [7]) (by kernel_rfl) (by decide) ?_
      intro i33 hi33
      obtain rfl : i33 = 7 := by simpa using hi33
      refine wpOp_append rfl (by kernel_rfl) hu_sl hu_u8 _ _ rfl (N + 1) _ [u] (by kernel_rfl) HA_33.out ⟨gB, 0, none⟩ code.size cB (sb code) (by kernel_rfl) HB_33.out (by rw [HSL.out]; have := HCS.out; simp; omega) hw33 ?_
      intro vC u34 hOC hGC
      have hL : Below (N + 1) u33 u34 := below_own (Below.refl _ _) hw33 hGC (fun q hq => (HA_33.out.lt q hq).1)
      have HC_34 := Lib.hid (show Own u34 (N + 1) vC (u :: sb code) from hOC)
      have HE_34 := Lib.hid (VB.old HE_33.out hGC (fun ee => ne_own_bk HA_33.out HE_33.out ee))
      clear hOC hGC
      have hS_34 : (Below N w u34 ∧ Blk u34 N 53 k) := ⟨below_more hS_33.1 hL (by omega), hS_33.2.below hL (by omega)⟩
      have hw34 : N + 1 ≤ u34.heap.size := Nat.le_trans hw33 hL.size
      refine ⟨hS_34, ?_⟩
      clear hL hS_33 hw33
      refine wpAnyH_all (rs := [8]) (by kernel_rfl) (by decide) ?_
      intro i34 hi34
      obtain rfl : i34 = 8 := by simpa using hi34
      refine wpOp_enterE rfl (by kernel_rfl) 25 #[.int .i64 1, .slice (some ⟨N, 0, none⟩) 16 16, .agg #[.slice none 0 0, .slice none 0 0], vC] (fun v w9 => ∃ vd, v = .tuple #[.agg #[.slice none 0 0, .slice none 0 0], vd, .bool true] ∧ SlB w9 vd (ptag k u code) ∧ (∀ q, vd.ownBlock = some q → u34.heap.size ≤ q) ∧ Below u34.heap.size u34 w9) (by kernel_rfl) ((rCmac1_any _ _ k (u :: sb code) (.slice none 0 0) (.slice none 0 0) u34 ⟨_, _, _, rfl⟩ ⟨_, _, _, rfl⟩ (Blk.slB hS_34.2 HK.out (by decide)) (.inl HK.out) HC_34.out.slB (by simp only [List.length_cons, HSL.out]; have := HCS.out; omega)).mono fun e w9 ⟨vd, q1, q2, q3, q4⟩ => ⟨_, q1, vd, rfl, q2, q3, q4⟩) ?_
      rintro vr u35 ⟨vd, rfl, hD, hDf, hL⟩
      have HC_35 := Lib.hid (HC_34.out.under hL)
      have HE_35 := Lib.hid (VB.next HE_34.out hL)
      have HD_35 := Lib.hid hD
      have HDf := Lib.hid (show vd.ownBlock ≠ some gE from fun ee => absurd (hDf gE ee) (by have := VB.lt HE_34.out; omega))
      clear hD hDf
      have hS_35 : (Below N w u35 ∧ Blk u35 N 53 k) := ⟨below_more hS_34.1 hL (by omega), hS_34.2.below hL (by omega)⟩
      have hw35 : N + 1 ≤ u35.heap.size := Nat.le_trans hw34 hL.size
      refine ⟨hS_35, ?_⟩
      clear hL hS_34 hw34
      refine wpAnyH_take (i := 9) rfl (by kernel_rfl) (by kernel_rfl) (by kernel_rfl) (fun _ _ _ h => h) (yields_val (by kernel_rfl) (.tuple #[.agg #[.slice none 0 0, .slice none 0 0], vd, .bool true]) (fun w => by kernel_rfl)) hS_35 ?_
      refine wpAnyH_take (i := 10) rfl (by kernel_rfl) (by kernel_rfl) (by kernel_rfl) (fun _ _ _ h => h) (yields_val (by kernel_rfl) (.agg #[.slice none 0 0, .slice none 0 0]) (fun w => by kernel_rfl)) hS_35 ?_
      refine wpAnyH_take (i := 11) rfl (by kernel_rfl) (by kernel_rfl) (by kernel_rfl) (fun _ _ _ h => h) (yields_val (by kernel_rfl) (vd) (fun w => by kernel_rfl)) hS_35 ?_
      refine wpAnyH_take (i := 12) rfl (by kernel_rfl) (by kernel_rfl) (by kernel_rfl) (fun _ _ _ h => h) (yields_val (by kernel_rfl) (.bool true) (fun w => by kernel_rfl)) hS_35 ?_
      refine wpAnyH_all (rs := [14]) (by kernel_rfl) (by decide) ?_
      intro i35 hi35
      obtain rfl : i35 = 14 := by simpa using hi35
      refine wpOp_storev rfl (by kernel_rfl) bkt _ _ rfl gE bkt 2 [.slice none 0 0, .slice none 0 0] (by kernel_rfl) (by kernel_rfl) (VB.row HE_35.out rfl) (by intro q hq; simp at hq; subst hq; rfl) rfl bkt_i ?_
      intro u36 hBs hGs hss
      have hL : Below (N + 1) u35 u36 := below_new (Below.refl _ _) hw35 hGs hNE
      have HD_36 := Lib.hid (HD_35.out.old hGs (.inr HDf.out))
      have hS_36 : (Below N w u36 ∧ Blk u36 N 53 k) := ⟨below_more hS_35.1 hL (by omega), hS_35.2.below hL (by omega)⟩
      have hw36 : N + 1 ≤ u36.heap.size := Nat.le_trans hw35 hL.size
      refine ⟨hS_36, ?_⟩
      clear hL hS_35 hw35
      refine wpAnyH_take (i := 15) rfl (by kernel_rfl) (by kernel_rfl) (by kernel_rfl) (fun _ _ _ h => h) (yields_val (by kernel_rfl) (vd) (fun w => by kernel_rfl)) hS_36 ?_
      refine wpAnyH_take (i := 16) rfl (by kernel_rfl) (by kernel_rfl) (by kernel_rfl) (fun _ _ _ h => h) (yields_val (by kernel_rfl) (.bool true) (fun w => by kernel_rfl)) hS_36 ?_
      refine wpAnyH_done (by kernel_rfl) ?_ _
      simp only [Act.put, List.getElem_toArray, List.getElem_cons_succ, List.getElem_cons_zero, List.setIfInBounds_toArray, List.set_cons_succ, List.set_cons_zero]
      go_wp2
      go_ret
      exact ⟨_, rfl, HD_36.out, by rw [HN.out]; exact hS_36.1⟩
  · skip
    refine wpOp_run rfl (by kernel_rfl) (.pointer (some ⟨u0.heap.size, 0, none⟩)) (u0.alloc (.cells #[.slice none 0 0, .slice none 0 0] bkt)) (by kernel_rfl) ?_
    have hL : Below u0.heap.size u0 (u0.alloc (.cells #[.slice none 0 0, .slice none 0 0] bkt)) := below_alloc (Below.refl _ _) (Nat.le_refl _) _
    have hVE : VB (u0.alloc (.cells #[.slice none 0 0, .slice none 0 0] bkt)) u0.heap.size bkt [.slice none 0 0, .slice none 0 0] := heap_alloc_new _ _
    obtain ⟨gE, egE⟩ : ∃ g, u0.heap.size = g := ⟨_, rfl⟩
    rw [egE] at hVE ⊢
    generalize u0.alloc (.cells #[.slice none 0 0, .slice none 0 0] bkt) = u37 at hL hVE ⊢
    have HE_37 := Lib.hid hVE
    have hNE : N + 1 ≤ gE := by omega
    clear hVE egE
    have hS_37 : (Below N w u37 ∧ Blk u37 N 53 k) := ⟨below_more hS_0.1 hL (by omega), hS_0.2.below hL (by omega)⟩
    have hw37 : N + 1 ≤ u37.heap.size := Nat.le_trans hw0 hL.size
    refine ⟨hS_37, ?_⟩
    clear hL hS_0 hw0
    refine wpAnyH_all (rs := [4, 6]) (by kernel_rfl) (by decide) ?_
    intro i37 hi37
    simp only [List.mem_cons, List.not_mem_nil, or_false] at hi37
    rcases hi37 with rfl | rfl
    · skip
      refine wpOp_run rfl (by kernel_rfl) (.slice (some ⟨u37.heap.size, 0, none⟩) 1 1) (u37.alloc (.cells (Bs [u]) u8t)) (by kernel_rfl) ?_
      have hL : Below u37.heap.size u37 (u37.alloc (.cells (Bs [u]) u8t)) := below_alloc (Below.refl _ _) (Nat.le_refl _) _
      have hOA := own_lit u37 (N + 1) [u] hw37 (by simp)
      obtain ⟨gA, egA⟩ : ∃ g, u37.heap.size = g := ⟨_, rfl⟩
      rw [egA] at hOA ⊢
      generalize u37.alloc (.cells (Bs [u]) u8t) = u38 at hL hOA ⊢
      have HE_38 := Lib.hid (VB.next HE_37.out hL)
      have HA_38 := Lib.hid (show Own u38 (N + 1) (.slice (some ⟨gA, 0, none⟩) 1 1) [u] from hOA)
      clear hOA egA
      have hS_38 : (Below N w u38 ∧ Blk u38 N 53 k) := ⟨below_more hS_37.1 hL (by omega), hS_37.2.below hL (by omega)⟩
      have hw38 : N + 1 ≤ u38.heap.size := Nat.le_trans hw37 hL.size
      refine ⟨hS_38, ?_⟩
      clear hL hS_37 hw37
      refine wpAnyH_all (rs := [6]) (by kernel_rfl) (by decide) ?_
      intro i38 hi38
      obtain rfl : i38 = 6 := by simpa using hi38
      refine wpOp_conv rfl (by kernel_rfl) _ rfl code (by kernel_rfl) ?_
      have hL : Below u38.heap.size u38 (Lib.bytesWorld u38 5 code) := bytes_below _ _ _ _ (Nat.le_refl _)
      have hRB := bytes_rd u38 5 code
      obtain ⟨hc1, hc2⟩ := grown_ok u38 code (by have := HCS.out; omega)
      obtain ⟨gB, egB⟩ : ∃ g, u38.heap.size = g := ⟨_, rfl⟩
      obtain ⟨cB, ecB⟩ : ∃ c, grownCap u38 code.size 0 5 = c := ⟨_, rfl⟩
      rw [egB] at hRB
      rw [ecB] at hc1 hc2
      rw [egB, ecB]
      generalize Lib.bytesWorld u38 5 code = u39 at hL hRB ⊢
      have HA_39 := Lib.hid (HA_38.out.under hL)
      have HE_39 := Lib.hid (VB.next HE_38.out hL)
      have HB_39 := Lib.hid (show SlB u39 (.slice (some ⟨gB, 0, none⟩) code.size cB) (sb code) from ⟨_, cB, by rw [HSL.out], fun h => (by cases h), by rw [HSL.out]; exact hc1, hc2, fun _ => ⟨gB, 0, rfl, hRB⟩⟩)
      clear hRB egB ecB hc1 hc2
      have hS_39 : (Below N w u39 ∧ Blk u39 N 53 k) := ⟨below_more hS_38.1 hL (by omega), hS_38.2.below hL (by omega)⟩
      have hw39 : N + 1 ≤ u39.heap.size := Nat.le_trans hw38 hL.size
      refine ⟨hS_39, ?_⟩
      clear hL hS_38 hw38
      refine wpAnyH_all (rs := [7]) (by kernel_rfl) (by decide) ?_
      intro i39 hi39
      obtain rfl : i39 = 7 := by simpa using hi39
      refine wpOp_append rfl (by kernel_rfl) hu_sl hu_u8 _ _ rfl (N + 1) _ [u] (by kernel_rfl) HA_39.out ⟨gB, 0, none⟩ code.size cB (sb code) (by kernel_rfl) HB_39.out (by rw [HSL.out]; have := HCS.out; simp; omega) hw39 ?_
      intro vC u40 hOC hGC
      have hL : Below (N + 1) u39 u40 := below_own (Below.refl _ _) hw39 hGC (fun q hq => (HA_39.out.lt q hq).1)
      have HC_40 := Lib.hid (show Own u40 (N + 1) vC (u :: sb code) from hOC)
      have HE_40 := Lib.hid (VB.old HE_39.out hGC (fun ee => ne_own_bk HA_39.out HE_39.out ee))
      clear hOC hGC
      have hS_40 : (Below N w u40 ∧ Blk u40 N 53 k) := ⟨below_more hS_39.1 hL (by omega), hS_39.2.below hL (by omega)⟩
      have hw40 : N + 1 ≤ u40.heap.size := Nat.le_trans hw39 hL.size
      refine ⟨hS_40, ?_⟩
      clear hL hS_39 hw39
      refine wpAnyH_all (rs := [8]) (by kernel_rfl) (by decide) ?_
      intro i40 hi40
      obtain rfl : i40 = 8 := by simpa using hi40
      refine wpOp_enterE rfl (by kernel_rfl) 25 #[.int .i64 1, .slice (some ⟨N, 0, none⟩) 16 16, .agg #[.slice none 0 0, .slice none 0 0], vC] (fun v w9 => ∃ vd, v = .tuple #[.agg #[.slice none 0 0, .slice none 0 0], vd, .bool true] ∧ SlB w9 vd (ptag k u code) ∧ (∀ q, vd.ownBlock = some q → u40.heap.size ≤ q) ∧ Below u40.heap.size u40 w9) (by kernel_rfl) ((rCmac1_any _ _ k (u :: sb code) (.slice none 0 0) (.slice none 0 0) u40 ⟨_, _, _, rfl⟩ ⟨_, _, _, rfl⟩ (Blk.slB hS_40.2 HK.out (by decide)) (.inl HK.out) HC_40.out.slB (by simp only [List.length_cons, HSL.out]; have := HCS.out; omega)).mono fun e w9 ⟨vd, q1, q2, q3, q4⟩ => ⟨_, q1, vd, rfl, q2, q3, q4⟩) ?_
      rintro vr u41 ⟨vd, rfl, hD, hDf, hL⟩
      have HC_41 := Lib.hid (HC_40.out.under hL)
      have HE_41 := Lib.hid (VB.next HE_40.out hL)
      have HD_41 := Lib.hid hD
      have HDf := Lib.hid (show vd.ownBlock ≠ some gE from fun ee => absurd (hDf gE ee) (by have := VB.lt HE_40.out; omega))
      clear hD hDf
      have hS_41 : (Below N w u41 ∧ Blk u41 N 53 k) := ⟨below_more hS_40.1 hL (by omega), hS_40.2.below hL (by omega)⟩
      have hw41 : N + 1 ≤ u41.heap.size := Nat.le_trans hw40 hL.size
      refine ⟨hS_41, ?_⟩
      clear hL hS_40 hw40
      refine wpAnyH_take (i := 9) rfl (by kernel_rfl) (by kernel_rfl) (by kernel_rfl) (fun _ _ _ h => h) (yields_val (by kernel_rfl) (.tuple #[.agg #[.slice none 0 0, .slice none 0 0], vd, .bool true]) (fun w => by kernel_rfl)) hS_41 ?_
      refine wpAnyH_take (i := 10) rfl (by kernel_rfl) (by kernel_rfl) (by kernel_rfl) (fun _ _ _ h => h) (yields_val (by kernel_rfl) (.agg #[.slice none 0 0, .slice none 0 0]) (fun w => by kernel_rfl)) hS_41 ?_
      refine wpAnyH_take (i := 11) rfl (by kernel_rfl) (by kernel_rfl) (by kernel_rfl) (fun _ _ _ h => h) (yields_val (by kernel_rfl) (vd) (fun w => by kernel_rfl)) hS_41 ?_
      refine wpAnyH_take (i := 12) rfl (by kernel_rfl) (by kernel_rfl) (by kernel_rfl) (fun _ _ _ h => h) (yields_val (by kernel_rfl) (.bool true) (fun w => by kernel_rfl)) hS_41 ?_
      refine wpAnyH_all (rs := [14]) (by kernel_rfl) (by decide) ?_
      intro i41 hi41
      obtain rfl : i41 = 14 := by simpa using hi41
      refine wpOp_storev rfl (by kernel_rfl) bkt _ _ rfl gE bkt 2 [.slice none 0 0, .slice none 0 0] (by kernel_rfl) (by kernel_rfl) (VB.row HE_41.out rfl) (by intro q hq; simp at hq; subst hq; rfl) rfl bkt_i ?_
      intro u42 hBs hGs hss
      have hL : Below (N + 1) u41 u42 := below_new (Below.refl _ _) hw41 hGs hNE
      have HD_42 := Lib.hid (HD_41.out.old hGs (.inr HDf.out))
      have hS_42 : (Below N w u42 ∧ Blk u42 N 53 k) := ⟨below_more hS_41.1 hL (by omega), hS_41.2.below hL (by omega)⟩
      have hw42 : N + 1 ≤ u42.heap.size := Nat.le_trans hw41 hL.size
      refine ⟨hS_42, ?_⟩
      clear hL hS_41 hw41
      refine wpAnyH_take (i := 15) rfl (by kernel_rfl) (by kernel_rfl) (by kernel_rfl) (fun _ _ _ h => h) (yields_val (by kernel_rfl) (vd) (fun w => by kernel_rfl)) hS_42 ?_
      refine wpAnyH_take (i := 16) rfl (by kernel_rfl) (by kernel_rfl) (by kernel_rfl) (fun _ _ _ h => h) (yields_val (by kernel_rfl) (.bool true) (fun w => by kernel_rfl)) hS_42 ?_
      refine wpAnyH_done (by kernel_rfl) ?_ _
      simp only [Act.put, List.getElem_toArray, List.getElem_cons_succ, List.getElem_cons_zero, List.setIfInBounds_toArray, List.set_cons_succ, List.set_cons_zero]
      go_wp2
      go_ret
      exact ⟨_, rfl, HD_42.out, by rw [HN.out]; exact hS_42.1⟩
    · skip
      refine wpOp_conv rfl (by kernel_rfl) _ rfl code (by kernel_rfl) ?_
      have hL : Below u37.heap.size u37 (Lib.bytesWorld u37 5 code) := bytes_below _ _ _ _ (Nat.le_refl _)
      have hRB := bytes_rd u37 5 code
      obtain ⟨hc1, hc2⟩ := grown_ok u37 code (by have := HCS.out; omega)
      obtain ⟨gB, egB⟩ : ∃ g, u37.heap.size = g := ⟨_, rfl⟩
      obtain ⟨cB, ecB⟩ : ∃ c, grownCap u37 code.size 0 5 = c := ⟨_, rfl⟩
      rw [egB] at hRB
      rw [ecB] at hc1 hc2
      rw [egB, ecB]
      generalize Lib.bytesWorld u37 5 code = u43 at hL hRB ⊢
      have HE_43 := Lib.hid (VB.next HE_37.out hL)
      have HB_43 := Lib.hid (show SlB u43 (.slice (some ⟨gB, 0, none⟩) code.size cB) (sb code) from ⟨_, cB, by rw [HSL.out], fun h => (by cases h), by rw [HSL.out]; exact hc1, hc2, fun _ => ⟨gB, 0, rfl, hRB⟩⟩)
      clear hRB egB ecB hc1 hc2
      have hS_43 : (Below N w u43 ∧ Blk u43 N 53 k) := ⟨below_more hS_37.1 hL (by omega), hS_37.2.below hL (by omega)⟩
      have hw43 : N + 1 ≤ u43.heap.size := Nat.le_trans hw37 hL.size
      refine ⟨hS_43, ?_⟩
      clear hL hS_37 hw37
      refine wpAnyH_all (rs := [4]) (by kernel_rfl) (by decide) ?_
      intro i43 hi43
      obtain rfl : i43 = 4 := by simpa using hi43
      refine wpOp_run rfl (by kernel_rfl) (.slice (some ⟨u43.heap.size, 0, none⟩) 1 1) (u43.alloc (.cells (Bs [u]) u8t)) (by kernel_rfl) ?_
      have hL : Below u43.heap.size u43 (u43.alloc (.cells (Bs [u]) u8t)) := below_alloc (Below.refl _ _) (Nat.le_refl _) _
      have hOA := own_lit u43 (N + 1) [u] hw43 (by simp)
      obtain ⟨gA, egA⟩ : ∃ g, u43.heap.size = g := ⟨_, rfl⟩
      rw [egA] at hOA ⊢
      generalize u43.alloc (.cells (Bs [u]) u8t) = u44 at hL hOA ⊢
      have HB_44 := Lib.hid (HB_43.out.below hL)
      have HE_44 := Lib.hid (VB.next HE_43.out hL)
      have HA_44 := Lib.hid (show Own u44 (N + 1) (.slice (some ⟨gA, 0, none⟩) 1 1) [u] from hOA)
      clear hOA egA
      have hS_44 : (Below N w u44 ∧ Blk u44 N 53 k) := ⟨below_more hS_43.1 hL (by omega), hS_43.2.below hL (by omega)⟩
      have hw44 : N + 1 ≤ u44.heap.size := Nat.le_trans hw43 hL.size
      refine ⟨hS_44, ?_⟩
      clear hL hS_43 hw43
      refine wpAnyH_all (rs := [7]) (by kernel_rfl) (by decide) ?_
      intro i44 hi44
      obtain rfl : i44 = 7 := by simpa using hi44
      refine wpOp_append rfl (by kernel_rfl) hu_sl hu_u8 _ _ rfl (N + 1) _ [u] (by kernel_rfl) HA_44.out ⟨gB, 0, none⟩ code.size cB (sb code) (by kernel_rfl) HB_44.out (by rw [HSL.out]; have := HCS.out; simp; omega) hw44 ?_
      intro vC u45 hOC hGC
      have hL : Below (N + 1) u44 u45 := below_own (Below.refl _ _) hw44 hGC (fun q hq => (HA_44.out.lt q hq).1)
      have HC_45 := Lib.hid (show Own u45 (N + 1) vC (u :: sb code) from hOC)
      have HE_45 := Lib.hid (VB.old HE_44.out hGC (fun ee => ne_own_bk HA_44.out HE_44.out ee))
      clear hOC hGC
      have hS_45 : (Below N w u45 ∧ Blk u45 N 53 k) := ⟨below_more hS_44.1 hL (by omega), hS_44.2.below hL (by omega)⟩
      have hw45 : N + 1 ≤ u45.heap.size := Nat.le_trans hw44 hL.size
      refine ⟨hS_45, ?_⟩
      clear hL hS_44 hw44
      refine wpAnyH_all (rs := [8]) (by kernel_rfl) (by decide) ?_
      intro i45 hi45
      obtain rfl : i45 = 8 := by simpa using hi45
      refine wpOp_enterE rfl (by kernel_rfl) 25 #[.int .i64 1, .slice (some ⟨N, 0, none⟩) 16 16, .agg #[.slice none 0 0, .slice none 0 0], vC] (fun v w9 => ∃ vd, v = .tuple #[.agg #[.slice none 0 0, .slice none 0 0], vd, .bool true] ∧ SlB w9 vd (ptag k u code) ∧ (∀ q, vd.ownBlock = some q → u45.heap.size ≤ q) ∧ Below u45.heap.size u45 w9) (by kernel_rfl) ((rCmac1_any _ _ k (u :: sb code) (.slice none 0 0) (.slice none 0 0) u45 ⟨_, _, _, rfl⟩ ⟨_, _, _, rfl⟩ (Blk.slB hS_45.2 HK.out (by decide)) (.inl HK.out) HC_45.out.slB (by simp only [List.length_cons, HSL.out]; have := HCS.out; omega)).mono fun e w9 ⟨vd, q1, q2, q3, q4⟩ => ⟨_, q1, vd, rfl, q2, q3, q4⟩) ?_
      rintro vr u46 ⟨vd, rfl, hD, hDf, hL⟩
      have HC_46 := Lib.hid (HC_45.out.under hL)
      have HE_46 := Lib.hid (VB.next HE_45.out hL)
      have HD_46 := Lib.hid hD
      have HDf := Lib.hid (show vd.ownBlock ≠ some gE from fun ee => absurd (hDf gE ee) (by have := VB.lt HE_45.out; omega))
      clear hD hDf
      have hS_46 : (Below N w u46 ∧ Blk u46 N 53 k) := ⟨below_more hS_45.1 hL (by omega), hS_45.2.below hL (by omega)⟩
      have hw46 : N + 1 ≤ u46.heap.size := Nat.le_trans hw45 hL.size
      refine ⟨hS_46, ?_⟩
      clear hL hS_45 hw45
      refine wpAnyH_take (i := 9) rfl (by kernel_rfl) (by kernel_rfl) (by kernel_rfl) (fun _ _ _ h => h) (yields_val (by kernel_rfl) (.tuple #[.agg #[.slice none 0 0, .slice none 0 0], vd, .bool true]) (fun w => by kernel_rfl)) hS_46 ?_
      refine wpAnyH_take (i := 10) rfl (by kernel_rfl) (by kernel_rfl) (by kernel_rfl) (fun _ _ _ h => h) (yields_val (by kernel_rfl) (.agg #[.slice none 0 0, .slice none 0 0]) (fun w => by kernel_rfl)) hS_46 ?_
      refine wpAnyH_take (i := 11) rfl (by kernel_rfl) (by kernel_rfl) (by kernel_rfl) (fun _ _ _ h => h) (yields_val (by kernel_rfl) (vd) (fun w => by kernel_rfl)) hS_46 ?_
      refine wpAnyH_take (i := 12) rfl (by kernel_rfl) (by kernel_rfl) (by kernel_rfl) (fun _ _ _ h => h) (yields_val (by kernel_rfl) (.bool true) (fun w => by kernel_rfl)) hS_46 ?_
      refine wpAnyH_all (rs := [14]) (by kernel_rfl) (by decide) ?_
      intro i46 hi46
      obtain rfl : i46 = 14 := by simpa using hi46
      refine wpOp_storev rfl (by kernel_rfl) bkt _ _ rfl gE bkt 2 [.slice none 0 0, .slice none 0 0] (by kernel_rfl) (by kernel_rfl) (VB.row HE_46.out rfl) (by intro q hq; simp at hq; subst hq; rfl) rfl bkt_i ?_
      intro u47 hBs hGs hss
      have hL : Below (N + 1) u46 u47 := below_new (Below.refl _ _) hw46 hGs hNE
      have HD_47 := Lib.hid (HD_46.out.old hGs (.inr HDf.out))
      have hS_47 : (Below N w u47 ∧ Blk u47 N 53 k) := ⟨below_more hS_46.1 hL (by omega), hS_46.2.below hL (by omega)⟩
      have hw47 : N + 1 ≤ u47.heap.size := Nat.le_trans hw46 hL.size
      refine ⟨hS_47, ?_⟩
      clear hL hS_46 hw46
      refine wpAnyH_take (i := 15) rfl (by kernel_rfl) (by kernel_rfl) (by kernel_rfl) (fun _ _ _ h => h) (yields_val (by kernel_rfl) (vd) (fun w => by kernel_rfl)) hS_47 ?_
      refine wpAnyH_take (i := 16) rfl (by kernel_rfl) (by kernel_rfl) (by kernel_rfl) (fun _ _ _ h => h) (yields_val (by kernel_rfl) (.bool true) (fun w => by kernel_rfl)) hS_47 ?_
      refine wpAnyH_done (by kernel_rfl) ?_ _
      simp only [Act.put, List.getElem_toArray, List.getElem_cons_succ, List.getElem_cons_zero, List.setIfInBounds_toArray, List.set_cons_succ, List.set_cons_zero]
      go_wp2
      go_ret
      exact ⟨_, rfl, HD_47.out, by rw [HN.out]; exact hS_47.1⟩
end Go.Proofs.YtbbfjlnkhenbiaaGreatDoor
