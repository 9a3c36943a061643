/- For whatever key, officer and code the law GuardLeaves of the layer of guards returns true (who leaves must give the code again, what one gives changes nothing of the other one), and its arguments read as they did; the variable errors.errorType starts as the program lays it. -/
import Derived.Test.YtjbdhnmkeaogcaaDoorKG1
import Derived.Test.YtjbdhnmkeaogcaaDoorKB5
import Derived.Test.YtjbdhnmkeaogcaaDoorKB6
import Derived.Test.YtjbdhnmkeaogcaaDoorKB0
import Derived.WalkKit
import Derived.ProofKit
import Derived.OpenShut
import Derived.ShutString
import Derived.ChangeOld
import Derived.SizedLaws
import Derived.ChangeSlices
import Derived.Test.YtjbdhnmkeaogcaaDoorRows
import Derived.ChangeSame
import Derived.ChangeVars
import Derived.JoinedOf
import Derived.RowKit
import Derived.RowKitTokens
import Derived.LaidLaws
import Derived.LaidHandle
import Derived.Stop.Joined
import Derived.SevenTiedAt
import Derived.Test.YtjbdhnmkeaogcaaDoorCards
import Derived.Test.YtjbdhnmkeaogcaaDoorTie
set_option linter.unusedVariables false
set_option linter.unusedSimpArgs false
namespace Go.Proofs.YtjbdhnmkeaogcaaDoor
open Go Go.RowKit Lk
section
variable {ops : Array Oper} {rest : List Oper} {o : Oper} {a : Act} {w : World} {Q : Exit → Act → World → Prop}
theorem load_tags_g (hw : Region.wanted o (yielded ops a.tmps) = true) (x : Operand) (ho : o.op = .load 76 x) (g T : Nat) (k t0 t1 : List UInt8) (p q : Bool) (m n : Int) (hx : a.eval x = .pointer (some ⟨g, 16, none⟩)) (hB : GB w g T k t0 t1 p q m n) (hk : k.length = 16) (h0 : t0.length = 16) (h1 : t1.length = 16)
    (h : wpList Tryd.prog ops Q rest (a.put o.dst (.agg (tgs t0 t1))) w) : wpList Tryd.prog ops Q (o :: rest) a w :=
  wpList_step fun K hK => by
    simp only [hw, if_true]
    have hr := VB.range hB.vb 16 32
    rw [ga_tags _ _ _ _ _ _ _ hk h0 h1] at hr
    have hu : Tryd.prog.underlying 76 = some (.array 2 t16) := by kernel_rfl
    have hs : (Tryd.prog.info? 76).map (·.size) = some 32 := by kernel_rfl
    have hl := run_loadVar_mid (P := Tryd.prog) w g 16 76 (Bl t0 ++ Bl t1) (.array 2 t16) hr hu rfl (by rw [List.length_append, Bl_len, Bl_len, h0, h1]; exact hs)
    unfold Oper.wp execOp
    simp only [ho, hx, Instr.loadAt, Instr.sureAddr, Sem.run_bind, Sem.run_pure, Result.andThen_ok, hl]
    exact hK _ _ h
theorem load_key_g (hw : Region.wanted o (yielded ops a.tmps) = true) (x : Operand) (ho : o.op = .load 41 x) (g k0 : Nat) (l : List UInt8) (hx : a.eval x = .pointer (some ⟨g, k0, none⟩)) (hB : Rd w g k0 l) (hk : l.length = 16)
    (h : wpList Tryd.prog ops Q rest (a.put o.dst (.agg (Bs l))) w) : wpList Tryd.prog ops Q (o :: rest) a w :=
  wpList_step fun K hK => by
    simp only [hw, if_true]
    have hu : Tryd.prog.underlying 41 = some (.array 16 5) := by kernel_rfl
    have hs : (Tryd.prog.info? 41).map (·.size) = some 16 := by kernel_rfl
    have hl := run_loadVar_mid (P := Tryd.prog) w g k0 41 (Bl l) (.array 16 5) (rangeAt_rd hB) hu rfl (by rw [Bl_len, hk]; exact hs)
    unfold Oper.wp execOp
    simp only [ho, hx, Instr.loadAt, Instr.sureAddr, Sem.run_bind, Sem.run_pure, Result.andThen_ok, hl]
    exact hK _ _ h
end
theorem Enter_some0 (k t0 t1 : List UInt8) (a b : Bool) (m n : Int) (code : ByteArray) (w : World) (hk : k.length = 16) (h0 : t0.length = 16) (h1 : t1.length = 16) (hb0 : 0 ≤ m) (hb : m < 5) (hcs : code.size ≤ 140737488351232) :
    Calls Tryd.prog 55 #[.agg (ga k t0 t1 a b m n), .int .i64 0, .string code] w fun e w' => ∃ a' m' v, e = .returned (.tuple #[.agg (ga k t0 t1 a' b m' n), v]) ∧ Below w.heap.size w w' := by
  by_cases hc : code.size < 4 ∨ 16 < code.size
  · exact (Enter_none0 k t0 t1 a b m n code w hk h0 h1 hb0 hb hcs hc).mono fun e w' ⟨q1, q2⟩ => ⟨_, _, _, q1, q2⟩
  · by_cases ht : ptag k 0 code = t0
    · exact (Enter_yes0 k t0 t1 a b m n code w hk h0 h1 hb0 hb (by omega) (by omega) ht).mono fun e w' ⟨q1, q2⟩ => ⟨_, _, _, q1, q2⟩
    · exact (Enter_other0 k t0 t1 a b m n code w hk h0 h1 hb0 hb (by omega) (by omega) ht).mono fun e w' ⟨q1, q2⟩ => ⟨_, _, _, q1, q2⟩
theorem Enter_some1 (k t0 t1 : List UInt8) (a b : Bool) (m n : Int) (code : ByteArray) (w : World) (hk : k.length = 16) (h0 : t0.length = 16) (h1 : t1.length = 16) (hb0 : 0 ≤ n) (hb : n < 5) (hcs : code.size ≤ 140737488351232) :
    Calls Tryd.prog 55 #[.agg (ga k t0 t1 a b m n), .int .i64 1, .string code] w fun e w' => ∃ b' n' v, e = .returned (.tuple #[.agg (ga k t0 t1 a b' m n'), v]) ∧ Below w.heap.size w w' := by
  by_cases hc : code.size < 4 ∨ 16 < code.size
  · exact (Enter_none1 k t0 t1 a b m n code w hk h0 h1 hb0 hb hcs hc).mono fun e w' ⟨q1, q2⟩ => ⟨_, _, _, q1, q2⟩
  · by_cases ht : ptag k 1 code = t1
    · exact (Enter_yes1 k t0 t1 a b m n code w hk h0 h1 hb0 hb (by omega) (by omega) ht).mono fun e w' ⟨q1, q2⟩ => ⟨_, _, _, q1, q2⟩
    · exact (Enter_other1 k t0 t1 a b m n code w hk h0 h1 hb0 hb (by omega) (by omega) ht).mono fun e w' ⟨q1, q2⟩ => ⟨_, _, _, q1, q2⟩
set_option maxHeartbeats 6400000 in
set_option maxRecDepth 100000 in
theorem GuardLeaves_f (who : Bool) (K : List UInt8) (code : ByteArray) (w : World) (hE : Et w) (hk : K.length = 16) (hcs : code.size ≤ 9223372036854775807) (hb : ¬ code.size ≤ 100) : Calls Tryd.prog 18 #[.agg (Bs K), .bool who, .string code] w fun e w' => e = .returned (.bool true) ∧ Below w.heap.size w w' := by
  obtain ⟨N, hN⟩ : ∃ N, w.heap.size = N := ⟨_, rfl⟩
  have HN := Lib.hid hN
  obtain ⟨T0, eT0⟩ : ∃ t, ptag K 0 cAlpha = t := ⟨_, rfl⟩
  obtain ⟨T1, eT1⟩ : ∃ t, ptag K 1 cOmega = t := ⟨_, rfl⟩
  have HK := Lib.hid hk
  have H0 := Lib.hid (show T0.length = 16 by rw [← eT0]; exact ptag_len _ _ _)
  have H1 := Lib.hid (show T1.length = 16 by rw [← eT1]; exact ptag_len _ _ _)
  have HNW := Lib.hid (fun (w1 : World) => GNew_yes K cAlpha cOmega w1 hk (by decide) (by decide) (by decide) (by decide))
  rw [eT0, eT1] at HNW
  have ET0 := Lib.hid eT0
  have ET1 := Lib.hid eT1
  have hqt := fun w => eql_tags w T0 T1 T0 T1 H0.out H1.out H0.out H1.out
  have hqk := fun w => run_eql_bs (P := Tryd.prog) w (t := 41) (e := 5) K K (by kernel_rfl) (by kernel_rfl) (by kernel_rfl) (by kernel_rfl) hk hk
  simp only [beq_self_eq_true, Bool.and_self] at hqt hqk
  clear eT0 eT1 hk
  have i1 : (100 : Int) < (code.size : Int) := by omega
  have hM0 : Below N w w := Below.refl _ _
  have hs0 : N ≤ w.heap.size := by omega
  have E_0 := Lib.hid (hE)
  clear hE
  go_enter Tryd.func18, Tryd.ntmps18
  go_wp2_with (first | ((with_reducible show wpList _ _ _ _ _ w); refine box_blk (w := w) rfl 41 _ rfl K rfl ?_; intro u0 hA0 hG0 hz0; have hL : Below w.heap.size w u0 := below_none (Below.refl _ _) (Nat.le_refl _) hG0; rw [hN] at hA0 ⊢; clear hG0 hz0; have hM1 : Below N w u0 := below_more hM0 hL hs0; have hs1 : N ≤ u0.heap.size := Nat.le_trans hs0 (hL).size; have E_1 := Lib.hid (E_0.out.below hL); clear E_0; clear hM0 hs0; have K_1 := Lib.hid (hA0); clear hL hA0) | (go_at_call 54; (with_reducible show Calls _ _ _ u0 _); refine (awake24 u0 E_1.out).mono ?_; rintro e w2 ⟨rfl, hL⟩; have hM2 : Below N w w2 := below_more hM1 hL hs1; have hs2 : N ≤ w2.heap.size := Nat.le_trans hs1 (hL).size; have E_2 := Lib.hid (E_1.out.below hL); clear E_1; have K_2 := Lib.hid (K_1.out.under hL); clear K_1; clear hM1 hs1; clear hL) | (go_at_call 54; (with_reducible show Calls _ _ _ w2 _); refine (awake24 w2 E_2.out).mono ?_; rintro e w3 ⟨rfl, hL⟩; have hM3 : Below N w w3 := below_more hM2 hL hs2; have hs3 : N ≤ w3.heap.size := Nat.le_trans hs2 (hL).size; have E_3 := Lib.hid (E_2.out.below hL); clear E_2; have K_3 := Lib.hid (K_2.out.under hL); clear K_2; clear hM2 hs2; clear hL))
  go_ret
  exact ⟨rfl, by rw [HN.out]; exact hM3⟩
set_option maxHeartbeats 12800000 in
set_option maxRecDepth 100000 in
theorem GuardLeaves_0 (K : List UInt8) (code : ByteArray) (w : World) (hE : Et w) (hk : K.length = 16) (hcs : code.size ≤ 9223372036854775807) (hb : code.size ≤ 100) : Calls Tryd.prog 18 #[.agg (Bs K), .bool false, .string code] w fun e w' => e = .returned (.bool true) ∧ Below w.heap.size w w' := by
  obtain ⟨N, hN⟩ : ∃ N, w.heap.size = N := ⟨_, rfl⟩
  have HN := Lib.hid hN
  obtain ⟨T0, eT0⟩ : ∃ t, ptag K 0 cAlpha = t := ⟨_, rfl⟩
  obtain ⟨T1, eT1⟩ : ∃ t, ptag K 1 cOmega = t := ⟨_, rfl⟩
  have HK := Lib.hid hk
  have H0 := Lib.hid (show T0.length = 16 by rw [← eT0]; exact ptag_len _ _ _)
  have H1 := Lib.hid (show T1.length = 16 by rw [← eT1]; exact ptag_len _ _ _)
  have HNW := Lib.hid (fun (w1 : World) => GNew_yes K cAlpha cOmega w1 hk (by decide) (by decide) (by decide) (by decide))
  rw [eT0, eT1] at HNW
  have ET0 := Lib.hid eT0
  have ET1 := Lib.hid eT1
  have hqt := fun w => eql_tags w T0 T1 T0 T1 H0.out H1.out H0.out H1.out
  have hqk := fun w => run_eql_bs (P := Tryd.prog) w (t := 41) (e := 5) K K (by kernel_rfl) (by kernel_rfl) (by kernel_rfl) (by kernel_rfl) hk hk
  simp only [beq_self_eq_true, Bool.and_self] at hqt hqk
  clear eT0 eT1 hk
  have HCS := Lib.hid (show code.size ≤ 140737488351232 by omega)
  have i1 : ¬ (100 : Int) < (code.size : Int) := by omega
  have hM0 : Below N w w := Below.refl _ _
  have hs0 : N ≤ w.heap.size := by omega
  have E_0 := Lib.hid (hE)
  clear hE
  go_enter Tryd.func18, Tryd.ntmps18
  go_wp2_with (first | ((with_reducible show wpList _ _ _ _ _ w); refine box_blk (w := w) rfl 41 _ rfl K rfl ?_; intro u0 hA0 hG0 hz0; have hL : Below w.heap.size w u0 := below_none (Below.refl _ _) (Nat.le_refl _) hG0; rw [hN] at hA0 ⊢; clear hG0 hz0; have hM1 : Below N w u0 := below_more hM0 hL hs0; have hs1 : N ≤ u0.heap.size := Nat.le_trans hs0 (hL).size; have E_1 := Lib.hid (E_0.out.below hL); clear E_0; clear hM0 hs0; have K_1 := Lib.hid (hA0); clear hL hA0) | (go_at_call 54; (with_reducible show Calls _ _ _ u0 _); refine (awake24 u0 E_1.out).mono ?_; rintro e w2 ⟨rfl, hL⟩; have hM2 : Below N w w2 := below_more hM1 hL hs1; have hs2 : N ≤ w2.heap.size := Nat.le_trans hs1 (hL).size; have E_2 := Lib.hid (E_1.out.below hL); clear E_1; have K_2 := Lib.hid (K_1.out.under hL); clear K_1; clear hM1 hs1; clear hL) | ((with_reducible show wpList _ _ _ _ _ w2); refine load_blk (w := w2) rfl 41 _ rfl N 41 16 5 K (by rfl) K_2.out HK.out (by kernel_rfl) (by kernel_rfl) ?_) | (go_at_call 53; (with_reducible show Calls _ _ _ w2 _); refine (HNW.out w2).mono ?_; rintro e w3c ⟨rfl, hLc⟩) | ((with_reducible show wpList _ _ _ _ _ w3c); refine alloc_row (w := w3c) rfl gdt rfl (.agg (ga zg zg zg false false 0 0)) 52 (fun _ => by kernel_rfl) (by kernel_rfl) ?_; intro w3a hRa _ hGa hza) | ((with_reducible show wpList _ _ _ _ _ w3a); refine store_vr (w := w3a) rfl gdt _ _ rfl w3c.heap.size gdt 52 (gcs K T0 T1 false false 0 0) (by rfl) (by rfl) hRa (gcs_one _ _ _ _ _ _ _) (gcs_len _ _ _ _ _ _ _ HK.out H0.out H1.out) gdt_i ?_; intro w3 hBb hGb hzb; have hL : Below w2.heap.size w2 w3 := below_new (below_none hLc hLc.size hGa) (by have := hLc.size; omega) hGb hLc.size; obtain ⟨Gg, eGx⟩ : ∃ g, w3c.heap.size = g := ⟨_, rfl⟩; have hgB : GB w3 Gg gdt K T0 T1 false false 0 0 := (by rw [← eGx]; exact hBb); rw [eGx]; clear hRa hGa hza hBb hGb hzb hLc eGx; have hM3 : Below N w w3 := below_more hM2 hL hs2; have hs3 : N ≤ w3.heap.size := Nat.le_trans hs2 (hL).size; have E_3 := Lib.hid (E_2.out.below hL); clear E_2; have K_3 := Lib.hid (K_2.out.under hL); clear K_2; clear hM2 hs2; have g_3 := Lib.hid (hgB); clear hL hgB) | ((with_reducible show wpList _ _ _ _ _ w3); refine load_gd (w := w3) (by rfl) _ rfl Gg gdt K T0 T1 false false 0 0 (by rfl) g_3.out HK.out H0.out H1.out ?_) | (go_at_call 55; (with_reducible show Calls _ _ _ w3 _); refine (Enter_yes0 K T0 T1 false false 0 0 cAlpha w3 HK.out H0.out H1.out (by decide) (by decide) (by decide) (by decide) ET0.out).mono ?_; rintro e w4c ⟨rfl, hLc⟩) | ((with_reducible show wpList _ _ _ _ _ w4c); refine alloc_row (w := w4c) rfl gdt rfl (.agg (ga zg zg zg false false 0 0)) 52 (fun _ => by kernel_rfl) (by kernel_rfl) ?_; intro w4a hRa _ hGa hza) | ((with_reducible show wpList _ _ _ _ _ w4a); refine store_vr (w := w4a) rfl gdt _ _ rfl w4c.heap.size gdt 52 (gcs K T0 T1 true false 0 0) (by rfl) (by rfl) hRa (gcs_one _ _ _ _ _ _ _) (gcs_len _ _ _ _ _ _ _ HK.out H0.out H1.out) gdt_i ?_; intro w4 hBb hGb hzb; have hL : Below w3.heap.size w3 w4 := below_new (below_none hLc hLc.size hGa) (by have := hLc.size; omega) hGb hLc.size; obtain ⟨Gx, eGx⟩ : ∃ g, w4c.heap.size = g := ⟨_, rfl⟩; have hgB : GB w4 Gx gdt K T0 T1 true false 0 0 := (by rw [← eGx]; exact hBb); rw [eGx]; clear hRa hGa hza hBb hGb hzb hLc eGx; have hM4 : Below N w w4 := below_more hM3 hL hs3; have hs4 : N ≤ w4.heap.size := Nat.le_trans hs3 (hL).size; have E_4 := Lib.hid (E_3.out.below hL); clear E_3; have K_4 := Lib.hid (K_3.out.under hL); clear K_3; have g_4 := Lib.hid (g_3.out.next hL); clear g_3; clear hM3 hs3; have x_4 := Lib.hid (hgB); clear hL hgB) | ((with_reducible show wpList _ _ _ _ _ w4); refine load_gd (w := w4) (by rfl) _ rfl Gx gdt K T0 T1 true false 0 0 (by rfl) x_4.out HK.out H0.out H1.out ?_) | (go_at_call 55; (with_reducible show Calls _ _ _ w4 _); refine (Enter_yes1 K T0 T1 true false 0 0 cOmega w4 HK.out H0.out H1.out (by decide) (by decide) (by decide) (by decide) ET1.out).mono ?_; rintro e w5c ⟨rfl, hLc⟩) | ((with_reducible show wpList _ _ _ _ _ w5c); refine alloc_row (w := w5c) rfl gdt rfl (.agg (ga zg zg zg false false 0 0)) 52 (fun _ => by kernel_rfl) (by kernel_rfl) ?_; intro w5a hRa _ hGa hza) | ((with_reducible show wpList _ _ _ _ _ w5a); refine store_vr (w := w5a) rfl gdt _ _ rfl w5c.heap.size gdt 52 (gcs K T0 T1 true true 0 0) (by rfl) (by rfl) hRa (gcs_one _ _ _ _ _ _ _) (gcs_len _ _ _ _ _ _ _ HK.out H0.out H1.out) gdt_i ?_; intro w5 hBb hGb hzb; have hL : Below w4.heap.size w4 w5 := below_new (below_none hLc hLc.size hGa) (by have := hLc.size; omega) hGb hLc.size; obtain ⟨Gy, eGx⟩ : ∃ g, w5c.heap.size = g := ⟨_, rfl⟩; have hgB : GB w5 Gy gdt K T0 T1 true true 0 0 := (by rw [← eGx]; exact hBb); rw [eGx]; clear hRa hGa hza hBb hGb hzb hLc eGx; have hM5 : Below N w w5 := below_more hM4 hL hs4; have hs5 : N ≤ w5.heap.size := Nat.le_trans hs4 (hL).size; have E_5 := Lib.hid (E_4.out.below hL); clear E_4; have K_5 := Lib.hid (K_4.out.under hL); clear K_4; have g_5 := Lib.hid (g_4.out.next hL); clear g_4; have x_5 := Lib.hid (x_4.out.next hL); clear x_4; clear hM4 hs4; have y_5 := Lib.hid (hgB); clear hL hgB) | ((with_reducible show wpList _ _ _ _ _ w5); refine load_gd (w := w5) (by rfl) _ rfl Gy gdt K T0 T1 true true 0 0 (by rfl) y_5.out HK.out H0.out H1.out ?_) | (go_at_call 55; (with_reducible show Calls _ _ _ w5 _); refine (Enter_some0 K T0 T1 true true 0 0 code w5 HK.out H0.out H1.out (by decide) (by decide) HCS.out).mono ?_; rintro e w6c ⟨a1, m1, v1, rfl, hLc⟩) | ((with_reducible show wpList _ _ _ _ _ w6c); refine alloc_row (w := w6c) rfl gdt rfl (.agg (ga zg zg zg false false 0 0)) 52 (fun _ => by kernel_rfl) (by kernel_rfl) ?_; intro w6a hRa _ hGa hza) | ((with_reducible show wpList _ _ _ _ _ w6a); refine store_vr (w := w6a) rfl gdt _ _ rfl w6c.heap.size gdt 52 (gcs K T0 T1 a1 true m1 0) (by rfl) (by rfl) hRa (gcs_one _ _ _ _ _ _ _) (gcs_len _ _ _ _ _ _ _ HK.out H0.out H1.out) gdt_i ?_; intro w6 hBb hGb hzb; have hL : Below w5.heap.size w5 w6 := below_new (below_none hLc hLc.size hGa) (by have := hLc.size; omega) hGb hLc.size; obtain ⟨Gz, eGx⟩ : ∃ g, w6c.heap.size = g := ⟨_, rfl⟩; have hgB : GB w6 Gz gdt K T0 T1 a1 true m1 0 := (by rw [← eGx]; exact hBb); rw [eGx]; clear hRa hGa hza hBb hGb hzb hLc eGx; have hM6 : Below N w w6 := below_more hM5 hL hs5; have hs6 : N ≤ w6.heap.size := Nat.le_trans hs5 (hL).size; have E_6 := Lib.hid (E_5.out.below hL); clear E_5; have K_6 := Lib.hid (K_5.out.under hL); clear K_5; have g_6 := Lib.hid (g_5.out.next hL); clear g_5; have x_6 := Lib.hid (x_5.out.next hL); clear x_5; have y_6 := Lib.hid (y_5.out.next hL); clear y_5; clear hM5 hs5; have z_6 := Lib.hid (hgB); clear hL hgB) | ((with_reducible show wpList _ _ _ _ _ w6); refine load_gd (w := w6) (by rfl) _ rfl Gy gdt K T0 T1 true true 0 0 (by rfl) y_6.out HK.out H0.out H1.out ?_) | (go_at_call 56; (with_reducible show Calls _ _ _ w6 _); refine (Leave_any K T0 T1 true true 0 0 w6 HK.out H0.out H1.out).mono ?_; rintro e w7c ⟨rfl, hLc⟩) | ((with_reducible show wpList _ _ _ _ _ w7c); refine alloc_row (w := w7c) rfl gdt rfl (.agg (ga zg zg zg false false 0 0)) 52 (fun _ => by kernel_rfl) (by kernel_rfl) ?_; intro w7a hRa _ hGa hza) | ((with_reducible show wpList _ _ _ _ _ w7a); refine store_vr (w := w7a) rfl gdt _ _ rfl w7c.heap.size gdt 52 (gcs K T0 T1 false false 0 0) (by rfl) (by rfl) hRa (gcs_one _ _ _ _ _ _ _) (gcs_len _ _ _ _ _ _ _ HK.out H0.out H1.out) gdt_i ?_; intro w7 hBb hGb hzb; have hL : Below w6.heap.size w6 w7 := below_new (below_none hLc hLc.size hGa) (by have := hLc.size; omega) hGb hLc.size; obtain ⟨Go, eGx⟩ : ∃ g, w7c.heap.size = g := ⟨_, rfl⟩; have hgB : GB w7 Go gdt K T0 T1 false false 0 0 := (by rw [← eGx]; exact hBb); rw [eGx]; clear hRa hGa hza hBb hGb hzb hLc eGx; have hM7 : Below N w w7 := below_more hM6 hL hs6; have hs7 : N ≤ w7.heap.size := Nat.le_trans hs6 (hL).size; have E_7 := Lib.hid (E_6.out.below hL); clear E_6; have K_7 := Lib.hid (K_6.out.under hL); clear K_6; have g_7 := Lib.hid (g_6.out.next hL); clear g_6; have x_7 := Lib.hid (x_6.out.next hL); clear x_6; have y_7 := Lib.hid (y_6.out.next hL); clear y_6; have z_7 := Lib.hid (z_6.out.next hL); clear z_6; clear hM6 hs6; have o_7 := Lib.hid (hgB); clear hL hgB) | ((with_reducible show wpList _ _ _ _ _ w7); refine load_gd (w := w7) (by rfl) _ rfl Gy gdt K T0 T1 true true 0 0 (by rfl) y_7.out HK.out H0.out H1.out ?_) | (go_at_call 57; (with_reducible show Calls _ _ _ w7 _); refine (Both_tt K T0 T1 0 0 w7 HK.out H0.out H1.out).mono ?_; rintro e w8 ⟨rfl, hL⟩; have hM8 : Below N w w8 := below_more hM7 hL hs7; have hs8 : N ≤ w8.heap.size := Nat.le_trans hs7 (hL).size; have E_8 := Lib.hid (E_7.out.below hL); clear E_7; have K_8 := Lib.hid (K_7.out.under hL); clear K_7; have g_8 := Lib.hid (g_7.out.next hL); clear g_7; have x_8 := Lib.hid (x_7.out.next hL); clear x_7; have y_8 := Lib.hid (y_7.out.next hL); clear y_7; have z_8 := Lib.hid (z_7.out.next hL); clear z_7; have o_8 := Lib.hid (o_7.out.next hL); clear o_7; clear hM7 hs7; clear hL; have cb := z_8.out.bad1 HK.out H0.out H1.out; have ci := z_8.out.in1 HK.out H0.out H1.out) | ((with_reducible show wpList _ _ _ _ _ w8); refine load_tags_g (w := w8) (by rfl) _ rfl Gz gdt K T0 T1 a1 true m1 0 (by rfl) z_8.out HK.out H0.out H1.out ?_) | ((with_reducible show wpList _ _ _ _ _ w8); refine load_tags_g (w := w8) (by rfl) _ rfl Gy gdt K T0 T1 true true 0 0 (by rfl) y_8.out HK.out H0.out H1.out ?_) | ((with_reducible show wpList _ _ _ _ _ w8); refine load_key_g (w := w8) (by rfl) _ rfl Gz 0 K (by rfl) z_8.out.key HK.out ?_) | ((with_reducible show wpList _ _ _ _ _ w8); refine load_key_g (w := w8) (by rfl) _ rfl N 0 K (by rfl) K_8.out.rd0 HK.out ?_) | ((with_reducible show wpList _ _ _ _ _ w8); refine load_gd (w := w8) (by rfl) _ rfl Go gdt K T0 T1 false false 0 0 (by rfl) o_8.out HK.out H0.out H1.out ?_) | (go_at_call 57; (with_reducible show Calls _ _ _ w8 _); refine (Both_ff K T0 T1 0 0 w8 HK.out H0.out H1.out).mono ?_; rintro e w9 ⟨vb, rfl, hV, hL⟩; have hM9 : Below N w w9 := below_more hM8 hL hs8; have hs9 : N ≤ w9.heap.size := Nat.le_trans hs8 (hL).size; have E_9 := Lib.hid (E_8.out.below hL); clear E_8; have K_9 := Lib.hid (K_8.out.under hL); clear K_8; have g_9 := Lib.hid (g_8.out.next hL); clear g_8; have x_9 := Lib.hid (x_8.out.next hL); clear x_8; have y_9 := Lib.hid (y_8.out.next hL); clear y_8; have z_9 := Lib.hid (z_8.out.next hL); clear z_8; have o_9 := Lib.hid (o_8.out.next hL); clear o_8; clear hM8 hs8; have V_9 := Lib.hid (hV); clear hL hV cb ci) | (go_at_call 58; (with_reducible show Calls _ _ _ w9 _); refine (At_yes 0 [] 11 _ w9 E_9.out V_9.out).mono ?_; rintro e w10 ⟨rfl, hL⟩; have hM10 : Below N w w10 := below_more hM9 hL hs9; have hs10 : N ≤ w10.heap.size := Nat.le_trans hs9 (hL).size; have E_10 := Lib.hid (E_9.out.below hL); clear E_9; have K_10 := Lib.hid (K_9.out.under hL); clear K_9; have g_10 := Lib.hid (g_9.out.next hL); clear g_9; have x_10 := Lib.hid (x_9.out.next hL); clear x_9; have y_10 := Lib.hid (y_9.out.next hL); clear y_9; have z_10 := Lib.hid (z_9.out.next hL); clear z_9; have o_10 := Lib.hid (o_9.out.next hL); clear o_9; have V_10 := Lib.hid (V_9.out.below hL); clear V_9; clear hM9 hs9; clear hL) | ((with_reducible show wpList _ _ _ _ _ w10); refine load_tags_g (w := w10) (by rfl) _ rfl Go gdt K T0 T1 false false 0 0 (by rfl) o_10.out HK.out H0.out H1.out ?_) | ((with_reducible show wpList _ _ _ _ _ w10); refine load_tags_g (w := w10) (by rfl) _ rfl Gy gdt K T0 T1 true true 0 0 (by rfl) y_10.out HK.out H0.out H1.out ?_))
  go_ret
  exact ⟨rfl, by rw [HN.out]; exact hM10⟩
set_option maxHeartbeats 12800000 in
set_option maxRecDepth 100000 in
theorem GuardLeaves_1 (K : List UInt8) (code : ByteArray) (w : World) (hE : Et w) (hk : K.length = 16) (hcs : code.size ≤ 9223372036854775807) (hb : code.size ≤ 100) : Calls Tryd.prog 18 #[.agg (Bs K), .bool true, .string code] w fun e w' => e = .returned (.bool true) ∧ Below w.heap.size w w' := by
  obtain ⟨N, hN⟩ : ∃ N, w.heap.size = N := ⟨_, rfl⟩
  have HN := Lib.hid hN
  obtain ⟨T0, eT0⟩ : ∃ t, ptag K 0 cAlpha = t := ⟨_, rfl⟩
  obtain ⟨T1, eT1⟩ : ∃ t, ptag K 1 cOmega = t := ⟨_, rfl⟩
  have HK := Lib.hid hk
  have H0 := Lib.hid (show T0.length = 16 by rw [← eT0]; exact ptag_len _ _ _)
  have H1 := Lib.hid (show T1.length = 16 by rw [← eT1]; exact ptag_len _ _ _)
  have HNW := Lib.hid (fun (w1 : World) => GNew_yes K cAlpha cOmega w1 hk (by decide) (by decide) (by decide) (by decide))
  rw [eT0, eT1] at HNW
  have ET0 := Lib.hid eT0
  have ET1 := Lib.hid eT1
  have hqt := fun w => eql_tags w T0 T1 T0 T1 H0.out H1.out H0.out H1.out
  have hqk := fun w => run_eql_bs (P := Tryd.prog) w (t := 41) (e := 5) K K (by kernel_rfl) (by kernel_rfl) (by kernel_rfl) (by kernel_rfl) hk hk
  simp only [beq_self_eq_true, Bool.and_self] at hqt hqk
  clear eT0 eT1 hk
  have HCS := Lib.hid (show code.size ≤ 140737488351232 by omega)
  have i1 : ¬ (100 : Int) < (code.size : Int) := by omega
  have hM0 : Below N w w := Below.refl _ _
  have hs0 : N ≤ w.heap.size := by omega
  have E_0 := Lib.hid (hE)
  clear hE
  go_enter Tryd.func18, Tryd.ntmps18
  go_wp2_with (first | ((with_reducible show wpList _ _ _ _ _ w); refine box_blk (w := w) rfl 41 _ rfl K rfl ?_; intro u0 hA0 hG0 hz0; have hL : Below w.heap.size w u0 := below_none (Below.refl _ _) (Nat.le_refl _) hG0; rw [hN] at hA0 ⊢; clear hG0 hz0; have hM1 : Below N w u0 := below_more hM0 hL hs0; have hs1 : N ≤ u0.heap.size := Nat.le_trans hs0 (hL).size; have E_1 := Lib.hid (E_0.out.below hL); clear E_0; clear hM0 hs0; have K_1 := Lib.hid (hA0); clear hL hA0) | (go_at_call 54; (with_reducible show Calls _ _ _ u0 _); refine (awake24 u0 E_1.out).mono ?_; rintro e w2 ⟨rfl, hL⟩; have hM2 : Below N w w2 := below_more hM1 hL hs1; have hs2 : N ≤ w2.heap.size := Nat.le_trans hs1 (hL).size; have E_2 := Lib.hid (E_1.out.below hL); clear E_1; have K_2 := Lib.hid (K_1.out.under hL); clear K_1; clear hM1 hs1; clear hL) | ((with_reducible show wpList _ _ _ _ _ w2); refine load_blk (w := w2) rfl 41 _ rfl N 41 16 5 K (by rfl) K_2.out HK.out (by kernel_rfl) (by kernel_rfl) ?_) | (go_at_call 53; (with_reducible show Calls _ _ _ w2 _); refine (HNW.out w2).mono ?_; rintro e w3c ⟨rfl, hLc⟩) | ((with_reducible show wpList _ _ _ _ _ w3c); refine alloc_row (w := w3c) rfl gdt rfl (.agg (ga zg zg zg false false 0 0)) 52 (fun _ => by kernel_rfl) (by kernel_rfl) ?_; intro w3a hRa _ hGa hza) | ((with_reducible show wpList _ _ _ _ _ w3a); refine store_vr (w := w3a) rfl gdt _ _ rfl w3c.heap.size gdt 52 (gcs K T0 T1 false false 0 0) (by rfl) (by rfl) hRa (gcs_one _ _ _ _ _ _ _) (gcs_len _ _ _ _ _ _ _ HK.out H0.out H1.out) gdt_i ?_; intro w3 hBb hGb hzb; have hL : Below w2.heap.size w2 w3 := below_new (below_none hLc hLc.size hGa) (by have := hLc.size; omega) hGb hLc.size; obtain ⟨Gg, eGx⟩ : ∃ g, w3c.heap.size = g := ⟨_, rfl⟩; have hgB : GB w3 Gg gdt K T0 T1 false false 0 0 := (by rw [← eGx]; exact hBb); rw [eGx]; clear hRa hGa hza hBb hGb hzb hLc eGx; have hM3 : Below N w w3 := below_more hM2 hL hs2; have hs3 : N ≤ w3.heap.size := Nat.le_trans hs2 (hL).size; have E_3 := Lib.hid (E_2.out.below hL); clear E_2; have K_3 := Lib.hid (K_2.out.under hL); clear K_2; clear hM2 hs2; have g_3 := Lib.hid (hgB); clear hL hgB) | ((with_reducible show wpList _ _ _ _ _ w3); refine load_gd (w := w3) (by rfl) _ rfl Gg gdt K T0 T1 false false 0 0 (by rfl) g_3.out HK.out H0.out H1.out ?_) | (go_at_call 55; (with_reducible show Calls _ _ _ w3 _); refine (Enter_yes0 K T0 T1 false false 0 0 cAlpha w3 HK.out H0.out H1.out (by decide) (by decide) (by decide) (by decide) ET0.out).mono ?_; rintro e w4c ⟨rfl, hLc⟩) | ((with_reducible show wpList _ _ _ _ _ w4c); refine alloc_row (w := w4c) rfl gdt rfl (.agg (ga zg zg zg false false 0 0)) 52 (fun _ => by kernel_rfl) (by kernel_rfl) ?_; intro w4a hRa _ hGa hza) | ((with_reducible show wpList _ _ _ _ _ w4a); refine store_vr (w := w4a) rfl gdt _ _ rfl w4c.heap.size gdt 52 (gcs K T0 T1 true false 0 0) (by rfl) (by rfl) hRa (gcs_one _ _ _ _ _ _ _) (gcs_len _ _ _ _ _ _ _ HK.out H0.out H1.out) gdt_i ?_; intro w4 hBb hGb hzb; have hL : Below w3.heap.size w3 w4 := below_new (below_none hLc hLc.size hGa) (by have := hLc.size; omega) hGb hLc.size; obtain ⟨Gx, eGx⟩ : ∃ g, w4c.heap.size = g := ⟨_, rfl⟩; have hgB : GB w4 Gx gdt K T0 T1 true false 0 0 := (by rw [← eGx]; exact hBb); rw [eGx]; clear hRa hGa hza hBb hGb hzb hLc eGx; have hM4 : Below N w w4 := below_more hM3 hL hs3; have hs4 : N ≤ w4.heap.size := Nat.le_trans hs3 (hL).size; have E_4 := Lib.hid (E_3.out.below hL); clear E_3; have K_4 := Lib.hid (K_3.out.under hL); clear K_3; have g_4 := Lib.hid (g_3.out.next hL); clear g_3; clear hM3 hs3; have x_4 := Lib.hid (hgB); clear hL hgB) | ((with_reducible show wpList _ _ _ _ _ w4); refine load_gd (w := w4) (by rfl) _ rfl Gx gdt K T0 T1 true false 0 0 (by rfl) x_4.out HK.out H0.out H1.out ?_) | (go_at_call 55; (with_reducible show Calls _ _ _ w4 _); refine (Enter_yes1 K T0 T1 true false 0 0 cOmega w4 HK.out H0.out H1.out (by decide) (by decide) (by decide) (by decide) ET1.out).mono ?_; rintro e w5c ⟨rfl, hLc⟩) | ((with_reducible show wpList _ _ _ _ _ w5c); refine alloc_row (w := w5c) rfl gdt rfl (.agg (ga zg zg zg false false 0 0)) 52 (fun _ => by kernel_rfl) (by kernel_rfl) ?_; intro w5a hRa _ hGa hza) | ((with_reducible show wpList _ _ _ _ _ w5a); refine store_vr (w := w5a) rfl gdt _ _ rfl w5c.heap.size gdt 52 (gcs K T0 T1 true true 0 0) (by rfl) (by rfl) hRa (gcs_one _ _ _ _ _ _ _) (gcs_len _ _ _ _ _ _ _ HK.out H0.out H1.out) gdt_i ?_; intro w5 hBb hGb hzb; have hL : Below w4.heap.size w4 w5 := below_new (below_none hLc hLc.size hGa) (by have := hLc.size; omega) hGb hLc.size; obtain ⟨Gy, eGx⟩ : ∃ g, w5c.heap.size = g := ⟨_, rfl⟩; have hgB : GB w5 Gy gdt K T0 T1 true true 0 0 := (by rw [← eGx]; exact hBb); rw [eGx]; clear hRa hGa hza hBb hGb hzb hLc eGx; have hM5 : Below N w w5 := below_more hM4 hL hs4; have hs5 : N ≤ w5.heap.size := Nat.le_trans hs4 (hL).size; have E_5 := Lib.hid (E_4.out.below hL); clear E_4; have K_5 := Lib.hid (K_4.out.under hL); clear K_4; have g_5 := Lib.hid (g_4.out.next hL); clear g_4; have x_5 := Lib.hid (x_4.out.next hL); clear x_4; clear hM4 hs4; have y_5 := Lib.hid (hgB); clear hL hgB) | ((with_reducible show wpList _ _ _ _ _ w5); refine load_gd (w := w5) (by rfl) _ rfl Gy gdt K T0 T1 true true 0 0 (by rfl) y_5.out HK.out H0.out H1.out ?_) | (go_at_call 55; (with_reducible show Calls _ _ _ w5 _); refine (Enter_some1 K T0 T1 true true 0 0 code w5 HK.out H0.out H1.out (by decide) (by decide) HCS.out).mono ?_; rintro e w6c ⟨a1, m1, v1, rfl, hLc⟩) | ((with_reducible show wpList _ _ _ _ _ w6c); refine alloc_row (w := w6c) rfl gdt rfl (.agg (ga zg zg zg false false 0 0)) 52 (fun _ => by kernel_rfl) (by kernel_rfl) ?_; intro w6a hRa _ hGa hza) | ((with_reducible show wpList _ _ _ _ _ w6a); refine store_vr (w := w6a) rfl gdt _ _ rfl w6c.heap.size gdt 52 (gcs K T0 T1 true a1 0 m1) (by rfl) (by rfl) hRa (gcs_one _ _ _ _ _ _ _) (gcs_len _ _ _ _ _ _ _ HK.out H0.out H1.out) gdt_i ?_; intro w6 hBb hGb hzb; have hL : Below w5.heap.size w5 w6 := below_new (below_none hLc hLc.size hGa) (by have := hLc.size; omega) hGb hLc.size; obtain ⟨Gz, eGx⟩ : ∃ g, w6c.heap.size = g := ⟨_, rfl⟩; have hgB : GB w6 Gz gdt K T0 T1 true a1 0 m1 := (by rw [← eGx]; exact hBb); rw [eGx]; clear hRa hGa hza hBb hGb hzb hLc eGx; have hM6 : Below N w w6 := below_more hM5 hL hs5; have hs6 : N ≤ w6.heap.size := Nat.le_trans hs5 (hL).size; have E_6 := Lib.hid (E_5.out.below hL); clear E_5; have K_6 := Lib.hid (K_5.out.under hL); clear K_5; have g_6 := Lib.hid (g_5.out.next hL); clear g_5; have x_6 := Lib.hid (x_5.out.next hL); clear x_5; have y_6 := Lib.hid (y_5.out.next hL); clear y_5; clear hM5 hs5; have z_6 := Lib.hid (hgB); clear hL hgB) | ((with_reducible show wpList _ _ _ _ _ w6); refine load_gd (w := w6) (by rfl) _ rfl Gy gdt K T0 T1 true true 0 0 (by rfl) y_6.out HK.out H0.out H1.out ?_) | (go_at_call 56; (with_reducible show Calls _ _ _ w6 _); refine (Leave_any K T0 T1 true true 0 0 w6 HK.out H0.out H1.out).mono ?_; rintro e w7c ⟨rfl, hLc⟩) | ((with_reducible show wpList _ _ _ _ _ w7c); refine alloc_row (w := w7c) rfl gdt rfl (.agg (ga zg zg zg false false 0 0)) 52 (fun _ => by kernel_rfl) (by kernel_rfl) ?_; intro w7a hRa _ hGa hza) | ((with_reducible show wpList _ _ _ _ _ w7a); refine store_vr (w := w7a) rfl gdt _ _ rfl w7c.heap.size gdt 52 (gcs K T0 T1 false false 0 0) (by rfl) (by rfl) hRa (gcs_one _ _ _ _ _ _ _) (gcs_len _ _ _ _ _ _ _ HK.out H0.out H1.out) gdt_i ?_; intro w7 hBb hGb hzb; have hL : Below w6.heap.size w6 w7 := below_new (below_none hLc hLc.size hGa) (by have := hLc.size; omega) hGb hLc.size; obtain ⟨Go, eGx⟩ : ∃ g, w7c.heap.size = g := ⟨_, rfl⟩; have hgB : GB w7 Go gdt K T0 T1 false false 0 0 := (by rw [← eGx]; exact hBb); rw [eGx]; clear hRa hGa hza hBb hGb hzb hLc eGx; have hM7 : Below N w w7 := below_more hM6 hL hs6; have hs7 : N ≤ w7.heap.size := Nat.le_trans hs6 (hL).size; have E_7 := Lib.hid (E_6.out.below hL); clear E_6; have K_7 := Lib.hid (K_6.out.under hL); clear K_6; have g_7 := Lib.hid (g_6.out.next hL); clear g_6; have x_7 := Lib.hid (x_6.out.next hL); clear x_6; have y_7 := Lib.hid (y_6.out.next hL); clear y_6; have z_7 := Lib.hid (z_6.out.next hL); clear z_6; clear hM6 hs6; have o_7 := Lib.hid (hgB); clear hL hgB) | ((with_reducible show wpList _ _ _ _ _ w7); refine load_gd (w := w7) (by rfl) _ rfl Gy gdt K T0 T1 true true 0 0 (by rfl) y_7.out HK.out H0.out H1.out ?_) | (go_at_call 57; (with_reducible show Calls _ _ _ w7 _); refine (Both_tt K T0 T1 0 0 w7 HK.out H0.out H1.out).mono ?_; rintro e w8 ⟨rfl, hL⟩; have hM8 : Below N w w8 := below_more hM7 hL hs7; have hs8 : N ≤ w8.heap.size := Nat.le_trans hs7 (hL).size; have E_8 := Lib.hid (E_7.out.below hL); clear E_7; have K_8 := Lib.hid (K_7.out.under hL); clear K_7; have g_8 := Lib.hid (g_7.out.next hL); clear g_7; have x_8 := Lib.hid (x_7.out.next hL); clear x_7; have y_8 := Lib.hid (y_7.out.next hL); clear y_7; have z_8 := Lib.hid (z_7.out.next hL); clear z_7; have o_8 := Lib.hid (o_7.out.next hL); clear o_7; clear hM7 hs7; clear hL; have cb := z_8.out.bad0 HK.out H0.out H1.out; have ci := z_8.out.in0 HK.out H0.out H1.out) | ((with_reducible show wpList _ _ _ _ _ w8); refine load_tags_g (w := w8) (by rfl) _ rfl Gz gdt K T0 T1 true a1 0 m1 (by rfl) z_8.out HK.out H0.out H1.out ?_) | ((with_reducible show wpList _ _ _ _ _ w8); refine load_tags_g (w := w8) (by rfl) _ rfl Gy gdt K T0 T1 true true 0 0 (by rfl) y_8.out HK.out H0.out H1.out ?_) | ((with_reducible show wpList _ _ _ _ _ w8); refine load_key_g (w := w8) (by rfl) _ rfl Gz 0 K (by rfl) z_8.out.key HK.out ?_) | ((with_reducible show wpList _ _ _ _ _ w8); refine load_key_g (w := w8) (by rfl) _ rfl N 0 K (by rfl) K_8.out.rd0 HK.out ?_) | ((with_reducible show wpList _ _ _ _ _ w8); refine load_gd (w := w8) (by rfl) _ rfl Go gdt K T0 T1 false false 0 0 (by rfl) o_8.out HK.out H0.out H1.out ?_) | (go_at_call 57; (with_reducible show Calls _ _ _ w8 _); refine (Both_ff K T0 T1 0 0 w8 HK.out H0.out H1.out).mono ?_; rintro e w9 ⟨vb, rfl, hV, hL⟩; have hM9 : Below N w w9 := below_more hM8 hL hs8; have hs9 : N ≤ w9.heap.size := Nat.le_trans hs8 (hL).size; have E_9 := Lib.hid (E_8.out.below hL); clear E_8; have K_9 := Lib.hid (K_8.out.under hL); clear K_8; have g_9 := Lib.hid (g_8.out.next hL); clear g_8; have x_9 := Lib.hid (x_8.out.next hL); clear x_8; have y_9 := Lib.hid (y_8.out.next hL); clear y_8; have z_9 := Lib.hid (z_8.out.next hL); clear z_8; have o_9 := Lib.hid (o_8.out.next hL); clear o_8; clear hM8 hs8; have V_9 := Lib.hid (hV); clear hL hV cb ci) | (go_at_call 58; (with_reducible show Calls _ _ _ w9 _); refine (At_yes 0 [] 11 _ w9 E_9.out V_9.out).mono ?_; rintro e w10 ⟨rfl, hL⟩; have hM10 : Below N w w10 := below_more hM9 hL hs9; have hs10 : N ≤ w10.heap.size := Nat.le_trans hs9 (hL).size; have E_10 := Lib.hid (E_9.out.below hL); clear E_9; have K_10 := Lib.hid (K_9.out.under hL); clear K_9; have g_10 := Lib.hid (g_9.out.next hL); clear g_9; have x_10 := Lib.hid (x_9.out.next hL); clear x_9; have y_10 := Lib.hid (y_9.out.next hL); clear y_9; have z_10 := Lib.hid (z_9.out.next hL); clear z_9; have o_10 := Lib.hid (o_9.out.next hL); clear o_9; have V_10 := Lib.hid (V_9.out.below hL); clear V_9; clear hM9 hs9; clear hL) | ((with_reducible show wpList _ _ _ _ _ w10); refine load_tags_g (w := w10) (by rfl) _ rfl Go gdt K T0 T1 false false 0 0 (by rfl) o_10.out HK.out H0.out H1.out ?_) | ((with_reducible show wpList _ _ _ _ _ w10); refine load_tags_g (w := w10) (by rfl) _ rfl Gy gdt K T0 T1 true true 0 0 (by rfl) y_10.out HK.out H0.out H1.out ?_))
  go_ret
  exact ⟨rfl, by rw [HN.out]; exact hM10⟩
theorem GuardLeaves_any (K : List UInt8) (who : Bool) (code : ByteArray) (w : World) (hE : Et w) (hk : K.length = 16) (hcs : code.size ≤ 9223372036854775807) : Calls Tryd.prog 18 #[.agg (Bs K), .bool who, .string code] w fun e w' => e = .returned (.bool true) ∧ Below w.heap.size w w' := by
  by_cases hb : code.size ≤ 100
  · cases who
    · exact GuardLeaves_0 K code w hE hk hcs hb
    · exact GuardLeaves_1 K code w hE hk hcs hb
  · exact GuardLeaves_f who K code w hE hk hcs hb
end Go.Proofs.YtjbdhnmkeaogcaaDoor
set_option linter.unusedVariables false
set_option linter.unusedSimpArgs false
namespace Lk
open Go Go.RowKit
/-- a slice of whole numbers as it is read -/
def IsRow (k : IntKind) (w : World) (a : Option Addr) (len cap : Nat) (zs : List Int) : Prop :=
  (a = none ∧ len = 0 ∧ cap = 0 ∧ zs = []) ∨
  ∃ x, a = some x ∧ len ≤ cap ∧ cap ≤ maxLen ∧ zs.length = cap ∧ (∀ i, i < zs.length → w.cell? (x.add i) = some (.int k (zs.getD i 0))) ∧ ∀ n ∈ zs, (Lit.int k n).wf = true
theorem u8_of_wf {n : Int} (h : (Lit.int .u8 n).wf = true) : n = bv (UInt8.ofNat n.toNat) := by
  obtain ⟨a, rfl⟩ := open_u8 h
  unfold bv
  simp
theorem slB_of_row {w : World} {a : Option Addr} {len cap : Nat} {zs : List Int} (h : IsRow .u8 w a len cap zs) : ∃ l : List UInt8, l.length = len ∧ SlB w (.slice a len cap) l := by
  rcases h with ⟨rfl, rfl, rfl, rfl⟩ | ⟨x, rfl, h1, h2, h3, h4, h5⟩
  · exact ⟨[], rfl, none, 0, rfl, fun _ => rfl, Nat.le_refl _, Nat.zero_le _, fun h => by omega⟩
  · have hl : ((zs.take len).map fun z => UInt8.ofNat z.toNat).length = len := by simp; omega
    refine ⟨(zs.take len).map fun z => UInt8.ofNat z.toNat, hl, some x, cap, by rw [hl], fun h => (by cases h), by rw [hl]; exact h1, h2, fun hc => ?_⟩
    have hx : x.spot = none := by
      have := h4 0 (by omega)
      have e : x.add 0 = x := by simp [Addr.add]
      rw [e] at this
      unfold World.cell? at this
      split at this
      · split at this
        · cases this
        · rename_i hs; simpa using hs
      · cases this
    obtain ⟨g, o, s⟩ := x
    cases hx
    refine ⟨g, o, rfl, fun k hk => ?_⟩
    rw [hl] at hk
    have hc := h4 k (by omega)
    have ea : (⟨g, o, none⟩ : Addr).add k = ⟨g, o + k, none⟩ := by unfold Addr.add; split <;> simp_all
    rw [ea] at hc
    rw [hc]
    have hm : zs.getD k 0 ∈ zs := by
      have : k < zs.length := by omega
      simp [this]
    have := u8_of_wf (h5 _ hm)
    have e : g8 ((zs.take len).map fun z => UInt8.ofNat z.toNat) k = UInt8.ofNat (zs.getD k 0).toNat := by
      unfold g8
      have : k < zs.length := by omega
      simp [List.getElem?_take, hk, this]
    rw [e, ← this]
section
variable {P : Program} {H : Type} {enc : TypeId × Value → H}
theorem open_slice_u8 {t e : TypeId} {W : World} {a : Option Addr} {len cap : Nat} {d : DataW H} {ps : List MemPlace} (ht : P.underlying t = some (.slice e)) (he : P.underlying e = some (.int .u8)) (hc : P.cellsOf e = 1)
    (h : DataW.Trod enc P W 0 (fun _ => true) true t (.slice a len cap) d ps) : ∃ l : List UInt8, l.length = len ∧ SlB W (.slice a len cap) l := by
  obtain ⟨zs, hz⟩ : ∃ zs, IsRow .u8 W a len cap zs := by
    obtain ⟨fuel, hf⟩ := h
    rcases Go.ChangeShapes.open_ints ht he hc hf with ⟨hcs, _⟩ | ⟨x, l, c, zs, hcs, _, hl, hm, hz, _, hcell, hwz⟩
    · simp [Value.cells] at hcs
      obtain ⟨rfl, rfl, rfl⟩ := hcs
      exact ⟨[], .inl ⟨rfl, rfl, rfl, rfl⟩⟩
    · simp [Value.cells] at hcs
      obtain ⟨rfl, rfl, rfl⟩ := hcs
      exact ⟨zs, .inr ⟨_, rfl, hl, hm, by simpa using hz, hcell, hwz⟩⟩
  exact slB_of_row hz
/-- an array of bytes -/
theorem open_arr_u8 {t e n : Nat} {W : World} {r : Reach} {base : Nat} {v : Value} (ht : P.underlying t = some (.array n e)) (he : P.underlying e = some (.int .u8)) (hc : P.cellsOf t = n) (hct : P.cellTypes P.depth t = some (List.replicate n e)) (hn : 0 < n)
    (h : Value.okWide P W r base t v) : ∃ l : List UInt8, l.length = n ∧ v = .agg (Bs l) := by
  simp only [Value.okWide, ht] at h
  obtain ⟨cs, rfl, hsz, ts, hts, _, hcell⟩ := h
  rw [hct] at hts
  cases hts
  rw [hc] at hsz
  refine ⟨cs.toList.map fun v => match v with | .int _ z => UInt8.ofNat z.toNat | _ => 0, by simp [hsz], ?_⟩
  congr 1
  apply Array.ext
  · simp [Bs]
  · intro i h1 h2
    obtain ⟨u, hu, hok⟩ := hcell i cs[i] (by simp [h1])
    have hue : u = e := by
      rw [List.getElem?_replicate] at hu
      split at hu
      · cases hu; rfl
      · cases hu
    subst hue
    simp only [Cell.okWide, he] at hok
    simp only [Bs, List.map_map, List.getElem_toArray, List.getElem_map, Function.comp_apply, Array.getElem_toList]
    cases hv : cs[i] with
    | int k z =>
      rw [hv] at hok
      simp only [Cell.ok, he] at hok
      obtain ⟨rfl, hw⟩ := hok
      have hw' : (Lit.int .u8 z).wf = true := by
        unfold Lit.wf
        rw [Bool.and_eq_true]
        exact ⟨decide_eq_true hw.1, decide_eq_true hw.2⟩
      simp only [← u8_of_wf hw']
    | _ => rw [hv] at hok; simp [Cell.ok, he] at hok
end
end Lk
set_option linter.unusedVariables false
namespace Go.Proofs.YtjbdhnmkeaogcaaDoor
open Go.ChangeShapes Go.WideShapes Go.RowKit
theorem ownKnobNone : ownKnob Tryd.prog.godebug = none := by kernel_rfl
theorem laidOutAll : laidOutB Tryd.prog = true := by kernel_rfl
theorem fct_laid : laidOutB Tryd.checked.prog = true := by kernel_rfl
theorem fct_maps : mapsRowed Tryd.checked.prog = true := by kernel_rfl
theorem fct_main : Tryd.pinned.checked.prog.mainIs = some (true, "8650a698aaa6e7940681561f98863e190d5ec889b7f6ab40edacde75e00aa3ea".toList) := by kernel_rfl
theorem fct_looks : true = Tryd.pinned.checked.prog.looks [] := by kernel_rfl
def laidList : List (String × DataW Unit) := [("errors.errorType", Rows.laid_errors_errorType)]
theorem et_g : Tryd.prog.globalNamed "errors.errorType" = some 0 := by kernel_rfl
theorem et_rt : (Tryd.prog.cutTypes.find? (·.1 == "internal/reflectlite.rtype")).map (·.2) = some 171 := by kernel_rfl
theorem et_row : ((List.range 242).filter fun t => Tryd.prog.rowNamed t [101, 114, 114, 111, 114]) = [29] := by kernel_rfl
theorem et_size : Tryd.prog.types.size = 242 := by kernel_rfl
theorem handle_of_laid {W : World} (h : laidMetH Tryd.prog laidList W) : Et W := by
  have h' : laidMet Tryd.prog [] W ∧ handlesMet Tryd.prog laidList W := h
  obtain ⟨name, u, ty, e1, e2, e3, e4, e5⟩ := h'.2 _ (List.mem_singleton.2 rfl)
  have en : name = [101, 114, 114, 111, 114] := (Option.some.inj e1).symm
  subst en
  obtain rfl := Option.some.inj (et_rt.symm.trans e2)
  have hm : ty ∈ (List.range 242).filter fun t => Tryd.prog.rowNamed t [101, 114, 114, 111, 114] := List.mem_filter.2 ⟨List.mem_range.2 (by rw [← et_size]; exact e3), e4⟩
  rw [et_row] at hm
  obtain rfl := List.mem_singleton.1 hm
  have hh : typeHandle Tryd.prog 29 = .pointer (some ⟨1, 29, none⟩) := by kernel_rfl
  rw [hh] at e5
  have := World.var?_cell et_g e5 0
  unfold Et hnd
  simpa using this
noncomputable def laidWorld (os : Os) : World :=
  let w0 := World.holding Tryd.prog os ⟨#[], #[], []⟩
  { w0 with heap := w0.heap.modify 0 fun
      | .cells _ t frozen => .cells #[.iface 171 (.agg #[.pointer (some ⟨1, 29, none⟩)])] t frozen
      | o => o }
theorem laidWorld_met (os : Os) (args : Array Value) : laidMetH Tryd.prog laidList ((laidWorld os).forCall (fun _ _ => 0) ⟨#[], args, []⟩).memory :=
  laidMetH_of_parts (laidMet_nil _ _) (by kernel_rfl)
end Go.Proofs.YtjbdhnmkeaogcaaDoor
namespace Go.Proofs.YtjbdhnmkeaogcaaDoor.guardLeaves
open Go.ChangeShapes Go.WideShapes Go.ChangeAt Go.RowKit Lk
open Go.ChangeMaps (open_string shut_string)
set_option linter.unusedVariables false
set_option linter.unusedSimpArgs false
set_option maxRecDepth 100000 in
theorem lifted (os : Os) (started : os.Started) (H : Type) (enc : TypeId × Value → H) :
    ReturnsInHanded {} Tryd.checked os 18 .any (fun w args => (Rows.guardLeavesSpec.pre enc Tryd.prog Tryd.f18 [] false w args ∧ laidMetH Tryd.prog laidList w) ∧ sizedMet enc Tryd.prog Tryd.f18 (OpenSpec.ofChange Rows.guardLeavesSpec) false w args)
      (Rows.guardLeavesSpec.post enc Tryd.prog Tryd.f18 false true false false) := by
  refine returnsInHanded_of_change_and (C := Tryd.checked) (X := fun w _ => laidMetH Tryd.prog laidList w) (fun _ _ _ hh h => h.of_heap hh) ownKnobNone started (by kernel_rfl) Tryd.func18
    (ChangeSpec.witness_at (enc := enc) (C := Tryd.checked) (os := os) (X := fun w _ => laidMetH Tryd.prog laidList w) false (laidWorld os) #[.agg #[.int .u8 0, .int .u8 0, .int .u8 0, .int .u8 0, .int .u8 0, .int .u8 0, .int .u8 0, .int .u8 0, .int .u8 0, .int .u8 0, .int .u8 0, .int .u8 0, .int .u8 0, .int .u8 0, .int .u8 0, .int .u8 0], .bool false, .string ByteArray.empty] 8 rfl (by kernel_rfl) (by kernel_rfl) (by kernel_rfl) (by kernel_rfl) (by kernel_rfl) (laidWorld_met os _)) ?_
  intro W base args ds gs before hval0 hW _ _ hLd _
  have hval : ∀ (j : Nat) t v, Tryd.f18.params[j]? = some t → args[j]? = some v → Value.okWide Tryd.prog W .any base t v := hval0
  have hW' := hW
  obtain ⟨p, q, hA0, hV, rfl, hfz, hnd⟩ := hW
  have hA : DataW.TrodAll enc Tryd.prog W 0 (fun _ => true) true Tryd.f18.params.toList args.toList ds p := hA0
  have hEt : Et W := handle_of_laid hLd
  rw [Tryd.params18] at hA hval
  obtain ⟨v0, vs0, d0, ds0, p0, q0, hargs, rfl, rfl, h0, r0⟩ := trodAll_cons hA
  obtain ⟨v1, vs1, d1, ds1, p1, q1, rfl, rfl, rfl, h1, r1⟩ := trodAll_cons r0
  obtain ⟨v2, vs2, d2, ds2, p2, q2, rfl, rfl, rfl, h2, r2⟩ := trodAll_cons r1
  obtain ⟨rfl, rfl, rfl⟩ := trodAll_nil r2
  obtain rfl : args = #[v0, v1, v2] := by cases args; simp_all
  obtain ⟨rfl, rfl⟩ := trodVars_none hV
  have k0 := h0
  have lt0 : ∀ x ∈ p0, x.block < W.heap.size := by obtain ⟨m, hm⟩ := k0; exact DataW.trod_lt m _ _ _ hm
  obtain ⟨l0, hl0, rfl⟩ := open_arr_u8 Tryd.underlying41 Tryd.underlying5 (by kernel_rfl) (by kernel_rfl) (by decide) (hval 0 41 v0 rfl rfl)
  have k1 := h1
  have lt1 : ∀ x ∈ p1, x.block < W.heap.size := by obtain ⟨m, hm⟩ := k1; exact DataW.trod_lt m _ _ _ hm
  obtain ⟨a1, rfl, rfl, rfl⟩ := open_bool Tryd.underlying4 (hval 1 4 v1 rfl rfl) h1
  have k2 := h2
  have lt2 : ∀ x ∈ p2, x.block < W.heap.size := by obtain ⟨m, hm⟩ := k2; exact DataW.trod_lt m _ _ _ hm
  obtain ⟨a2, rfl, rfl, rfl, w2⟩ := open_string Tryd.underlying9 (hval 2 9 v2 rfl rfl) h2
  clear hA0 hval0
  refine (GuardLeaves_any l0 a1 a2 W hEt hl0 w2).mono fun e W' ⟨he, bel⟩ => ?_
  subst he
  exact ⟨_, rfl, _, _, _, [], _, [], hW', trodAll_mk1 (shut_bool Tryd.underlying4 _), (trodAll_cons_mk (Below.trod laidOutAll (by kernel_rfl) (of_decide_eq_true (by kernel_rfl)) k0 bel lt0) (trodAll_cons_mk (Below.trod laidOutAll (by kernel_rfl) (of_decide_eq_true (by kernel_rfl)) k1 bel lt1) (trodAll_cons_mk (Below.trod laidOutAll (by kernel_rfl) (of_decide_eq_true (by kernel_rfl)) k2 bel lt2) trodAll_mk0))), rfl, bel.frame _, fun h => by cases h⟩
set_option maxHeartbeats 8000000 in
theorem closed : joinedFacts Tryd.checked.prog 18 Tryd.f18 Rows.guardLeavesSpec Rows.guardLeavesRow = true := by
  unfold joinedFacts
  simp only [Bool.and_eq_true]
  repeat' apply And.intro
  all_goals first | with_reducible exact fct_laid | with_reducible exact fct_maps | as_aux_lemma => kernel_rfl
theorem named_f : Tryd.prog.funcNamed "lockbox/lockboxlaw24.GuardLeaves" = some 18 := by kernel_rfl
theorem over : Rows.GuardLeavesSaid :=
  OpenClaim.holds_of_wide 18 Tryd.f18 rfl rfl rfl rfl rfl rfl rfl ⟨rfl, rfl, rfl, rfl, rfl⟩ rfl rfl rfl rfl rfl named_f Tryd.func18 closed
    (of_decide_eq_true (by kernel_rfl)) (by unfold Func.isWrapper; first | (rw [if_pos (by decide +kernel)]; kernel_rfl) | (rw [if_neg (by decide +kernel)]; exact ⟨rfl, rfl⟩))
    (fun os started H enc _ => lifted os started H enc)
theorem params_ok (j : Nat) (t : TypeId) (ht : Tryd.f18.params[j]? = some t) : Tryd.prog.wantsStandIn t = false := by
  rw [Tryd.params18] at ht
  have hm : t ∈ #[41, 4, 9] := Array.mem_of_getElem? ht
  simp only [List.mem_toArray, List.mem_cons, List.not_mem_nil, or_false] at hm
  rcases hm with rfl | rfl | rfl
  · show Tryd.prog.wantsStandIn 41 = false
    kernel_rfl
  · show Tryd.prog.wantsStandIn 4 = false
    kernel_rfl
  · show Tryd.prog.wantsStandIn 9 = false
    kernel_rfl
theorem wf_text : Rows.guardLeavesRow.wfByText (OpenSpec.ofChange Rows.guardLeavesSpec) = true := by kernel_rfl
theorem goes_no : false = Rows.guardLeavesRow.goesBy Tryd.pinned.checked.prog := by kernel_rfl
theorem card_holds : Rows.GuardLeavesCardSaid :=
  Claim7.holds_tied_plain_at .later [] [.handle] true (true, "8650a698aaa6e7940681561f98863e190d5ec889b7f6ab40edacde75e00aa3ea") true
    over (fun _ h => by cases h) wf_text (fun _ h => by cases h) guardLeaves_row_tie rfl ⟨rfl, rfl⟩ fct_main rfl
    (fun f fn hf hfn => by
      obtain rfl : f = 18 := Option.some.inj (named_f.symm.trans hf) |>.symm
      obtain rfl : fn = Tryd.f18 := (Option.some.inj (Tryd.func18.symm.trans hfn)).symm
      exact ⟨fct_looks, fun j t ht => params_ok j t ht⟩)
    goes_no
#print axioms card_holds
end Go.Proofs.YtjbdhnmkeaogcaaDoor.guardLeaves
namespace Go.Proofs.YtjbdhnmkeaogcaaDoor
/-- The card, under a short name, for the claim. -/
theorem guardLeaves_holds : Rows.GuardLeavesCardSaid := guardLeaves.card_holds
end Go.Proofs.YtjbdhnmkeaogcaaDoor
