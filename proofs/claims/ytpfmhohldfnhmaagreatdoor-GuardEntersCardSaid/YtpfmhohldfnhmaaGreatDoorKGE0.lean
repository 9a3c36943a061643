/- GuardEnters: early ways out. -/
import Derived.Test.YtpfmhohldfnhmaaGreatDoorKG4
import Derived.Test.YtpfmhohldfnhmaaGreatDoorKG3
import Derived.Test.YtpfmhohldfnhmaaGreatDoorKG0
set_option linter.unusedVariables false
set_option linter.unusedSimpArgs false
namespace Go.Proofs.YtpfmhohldfnhmaaGreatDoor
open Go Go.RowKit Lk
theorem and_of {a b x y : Bool} (h : a = x) (g : b = y) : (a && b) = (x && y) := by rw [h, g]
theorem Both_no (k t0 t1 : List UInt8) (a b : Bool) (m n : Int) (w : World) (hk : k.length = 16) (h0 : t0.length = 16) (h1 : t1.length = 16) (h : (a && b) = false) :
    Calls Tryz.prog 41 #[.agg (ga k t0 t1 a b m n)] w fun e w' => ∃ v, e = .returned v ∧ ErV w' [if a then 1 else 0] 11 v ∧ Below w.heap.size w w' := by
  cases a <;> cases b
  · exact Both_ff k t0 t1 m n w hk h0 h1
  · exact Both_ft k t0 t1 m n w hk h0 h1
  · exact Both_tf k t0 t1 m n w hk h0 h1
  · cases h
theorem Both_yes (k t0 t1 : List UInt8) (a b : Bool) (m n : Int) (w : World) (hk : k.length = 16) (h0 : t0.length = 16) (h1 : t1.length = 16) (ha : a = true) (hb : b = true) :
    Calls Tryz.prog 41 #[.agg (ga k t0 t1 a b m n)] w fun e w' => e = .returned .nilIface ∧ Below w.heap.size w w' := by
  subst ha; subst hb; exact Both_tt k t0 t1 m n w hk h0 h1
set_option maxHeartbeats 12800000 in
set_option maxRecDepth 100000 in
theorem GE_f0 (K T0 T1 : List UInt8) (a b : Bool) (m n : Int) (who : Int) (c0 : ByteArray) (w : World) (hE : Et w) (hk : K.length = 16) (h0 : T0.length = 16) (h1 : T1.length = 16) (b0 : ¬ c0.size ≤ 100) : Calls Tryz.prog 8 #[.agg (ga K T0 T1 a b m n), .int .i64 who, .string c0] w fun e w' => e = .returned (.bool true) ∧ Below w.heap.size w w' := by
  obtain ⟨N, hN⟩ : ∃ N, w.heap.size = N := ⟨_, rfl⟩
  have HN := Lib.hid hN
  have HK := Lib.hid hk
  have H0 := Lib.hid h0
  have H1 := Lib.hid h1
  have HZ := Lib.hid zg_len
  clear hk h0 h1
  have i0 : (100 : Int) < (c0.size : Int) := by omega
  clear b0
  have hM0 : Below N w w := Below.refl _ _
  have hs0 : N ≤ w.heap.size := by omega
  have E_0 := Lib.hid (hE)
  clear hE
  go_enter Tryz.func8, Tryz.ntmps8
  go_wp2_with (first | ((with_reducible show wpList _ _ _ _ _ w); refine box_vb (w := w) rfl gdt _ rfl (gcs K T0 T1 a b m n) (by rfl) ?_; intro u0 hA0 hG0 hz0; have hL : Below w.heap.size w u0 := below_none (Below.refl _ _) (Nat.le_refl _) hG0; rw [hN] at hA0 ⊢; have hgB : GB u0 N gdt K T0 T1 a b m n := (hA0); clear hG0 hz0 hA0; have hM1 : Below N w u0 := below_more hM0 hL hs0; have hs1 : N ≤ u0.heap.size := Nat.le_trans hs0 (hL).size; have E_1 := Lib.hid (E_0.out.below hL); clear E_0; clear hM0 hs0; have g_1 := Lib.hid (hgB); clear hL hgB) | (go_at_call 40; (with_reducible show Calls _ _ _ u0 _); refine (awake24 u0 E_1.out).mono ?_; rintro e w2 ⟨rfl, hL⟩; have hM2 : Below N w w2 := below_more hM1 hL hs1; have hs2 : N ≤ w2.heap.size := Nat.le_trans hs1 (hL).size; have E_2 := Lib.hid (E_1.out.below hL); clear E_1; have g_2 := Lib.hid (g_1.out.next hL); clear g_1; clear hM1 hs1; clear hL; have cb0 := g_2.out.bad0 HK.out H0.out H1.out; have cb1 := g_2.out.bad1 HK.out H0.out H1.out) | (go_at_call 40; (with_reducible show Calls _ _ _ w2 _); refine (awake24 w2 E_2.out).mono ?_; rintro e w3 ⟨rfl, hL⟩; have hM3 : Below N w w3 := below_more hM2 hL hs2; have hs3 : N ≤ w3.heap.size := Nat.le_trans hs2 (hL).size; have E_3 := Lib.hid (E_2.out.below hL); clear E_2; have g_3 := Lib.hid (g_2.out.next hL); clear g_2; clear hM2 hs2; clear hL))
  go_ret
  exact ⟨rfl, by rw [HN.out]; exact hM3⟩
set_option maxHeartbeats 12800000 in
set_option maxRecDepth 100000 in
theorem GE_f1 (K T0 T1 : List UInt8) (a b : Bool) (m n : Int) (who : Int) (c0 : ByteArray) (w : World) (hE : Et w) (hk : K.length = 16) (h0 : T0.length = 16) (h1 : T1.length = 16) (b0 : c0.size ≤ 100) (b1 : m < 0) : Calls Tryz.prog 8 #[.agg (ga K T0 T1 a b m n), .int .i64 who, .string c0] w fun e w' => e = .returned (.bool true) ∧ Below w.heap.size w w' := by
  obtain ⟨N, hN⟩ : ∃ N, w.heap.size = N := ⟨_, rfl⟩
  have HN := Lib.hid hN
  have HK := Lib.hid hk
  have H0 := Lib.hid h0
  have H1 := Lib.hid h1
  have HZ := Lib.hid zg_len
  clear hk h0 h1
  have i0 : ¬ (100 : Int) < (c0.size : Int) := by omega
  have i1 : m < 0 := by omega
  clear b0 b1
  have hM0 : Below N w w := Below.refl _ _
  have hs0 : N ≤ w.heap.size := by omega
  have E_0 := Lib.hid (hE)
  clear hE
  go_enter Tryz.func8, Tryz.ntmps8
  go_wp2_with (first | ((with_reducible show wpList _ _ _ _ _ w); refine box_vb (w := w) rfl gdt _ rfl (gcs K T0 T1 a b m n) (by rfl) ?_; intro u0 hA0 hG0 hz0; have hL : Below w.heap.size w u0 := below_none (Below.refl _ _) (Nat.le_refl _) hG0; rw [hN] at hA0 ⊢; have hgB : GB u0 N gdt K T0 T1 a b m n := (hA0); clear hG0 hz0 hA0; have hM1 : Below N w u0 := below_more hM0 hL hs0; have hs1 : N ≤ u0.heap.size := Nat.le_trans hs0 (hL).size; have E_1 := Lib.hid (E_0.out.below hL); clear E_0; clear hM0 hs0; have g_1 := Lib.hid (hgB); clear hL hgB) | (go_at_call 40; (with_reducible show Calls _ _ _ u0 _); refine (awake24 u0 E_1.out).mono ?_; rintro e w2 ⟨rfl, hL⟩; have hM2 : Below N w w2 := below_more hM1 hL hs1; have hs2 : N ≤ w2.heap.size := Nat.le_trans hs1 (hL).size; have E_2 := Lib.hid (E_1.out.below hL); clear E_1; have g_2 := Lib.hid (g_1.out.next hL); clear g_1; clear hM1 hs1; clear hL; have cb0 := g_2.out.bad0 HK.out H0.out H1.out; have cb1 := g_2.out.bad1 HK.out H0.out H1.out) | (go_at_call 40; (with_reducible show Calls _ _ _ w2 _); refine (awake24 w2 E_2.out).mono ?_; rintro e w3 ⟨rfl, hL⟩; have hM3 : Below N w w3 := below_more hM2 hL hs2; have hs3 : N ≤ w3.heap.size := Nat.le_trans hs2 (hL).size; have E_3 := Lib.hid (E_2.out.below hL); clear E_2; have g_3 := Lib.hid (g_2.out.next hL); clear g_2; clear hM2 hs2; clear hL))
  go_ret
  exact ⟨rfl, by rw [HN.out]; exact hM3⟩
set_option maxHeartbeats 12800000 in
set_option maxRecDepth 100000 in
theorem GE_f2 (K T0 T1 : List UInt8) (a b : Bool) (m n : Int) (who : Int) (c0 : ByteArray) (w : World) (hE : Et w) (hk : K.length = 16) (h0 : T0.length = 16) (h1 : T1.length = 16) (b0 : c0.size ≤ 100) (b1 : 0 ≤ m) (b2 : n < 0) : Calls Tryz.prog 8 #[.agg (ga K T0 T1 a b m n), .int .i64 who, .string c0] w fun e w' => e = .returned (.bool true) ∧ Below w.heap.size w w' := by
  obtain ⟨N, hN⟩ : ∃ N, w.heap.size = N := ⟨_, rfl⟩
  have HN := Lib.hid hN
  have HK := Lib.hid hk
  have H0 := Lib.hid h0
  have H1 := Lib.hid h1
  have HZ := Lib.hid zg_len
  clear hk h0 h1
  have i0 : ¬ (100 : Int) < (c0.size : Int) := by omega
  have i1 : ¬ m < 0 := by omega
  have i2 : n < 0 := by omega
  clear b0 b1 b2
  have hM0 : Below N w w := Below.refl _ _
  have hs0 : N ≤ w.heap.size := by omega
  have E_0 := Lib.hid (hE)
  clear hE
  go_enter Tryz.func8, Tryz.ntmps8
  go_wp2_with (first | ((with_reducible show wpList _ _ _ _ _ w); refine box_vb (w := w) rfl gdt _ rfl (gcs K T0 T1 a b m n) (by rfl) ?_; intro u0 hA0 hG0 hz0; have hL : Below w.heap.size w u0 := below_none (Below.refl _ _) (Nat.le_refl _) hG0; rw [hN] at hA0 ⊢; have hgB : GB u0 N gdt K T0 T1 a b m n := (hA0); clear hG0 hz0 hA0; have hM1 : Below N w u0 := below_more hM0 hL hs0; have hs1 : N ≤ u0.heap.size := Nat.le_trans hs0 (hL).size; have E_1 := Lib.hid (E_0.out.below hL); clear E_0; clear hM0 hs0; have g_1 := Lib.hid (hgB); clear hL hgB) | (go_at_call 40; (with_reducible show Calls _ _ _ u0 _); refine (awake24 u0 E_1.out).mono ?_; rintro e w2 ⟨rfl, hL⟩; have hM2 : Below N w w2 := below_more hM1 hL hs1; have hs2 : N ≤ w2.heap.size := Nat.le_trans hs1 (hL).size; have E_2 := Lib.hid (E_1.out.below hL); clear E_1; have g_2 := Lib.hid (g_1.out.next hL); clear g_1; clear hM1 hs1; clear hL; have cb0 := g_2.out.bad0 HK.out H0.out H1.out; have cb1 := g_2.out.bad1 HK.out H0.out H1.out) | (go_at_call 40; (with_reducible show Calls _ _ _ w2 _); refine (awake24 w2 E_2.out).mono ?_; rintro e w3 ⟨rfl, hL⟩; have hM3 : Below N w w3 := below_more hM2 hL hs2; have hs3 : N ≤ w3.heap.size := Nat.le_trans hs2 (hL).size; have E_3 := Lib.hid (E_2.out.below hL); clear E_2; have g_3 := Lib.hid (g_2.out.next hL); clear g_2; clear hM2 hs2; clear hL))
  go_ret
  exact ⟨rfl, by rw [HN.out]; exact hM3⟩
set_option maxHeartbeats 12800000 in
set_option maxRecDepth 100000 in
theorem GE_f3 (K T0 T1 : List UInt8) (a b : Bool) (m n : Int) (who : Int) (c0 : ByteArray) (w : World) (hE : Et w) (hk : K.length = 16) (h0 : T0.length = 16) (h1 : T1.length = 16) (b0 : c0.size ≤ 100) (b1 : 0 ≤ m) (b2 : 0 ≤ n) (b3 : 1000 < m) : Calls Tryz.prog 8 #[.agg (ga K T0 T1 a b m n), .int .i64 who, .string c0] w fun e w' => e = .returned (.bool true) ∧ Below w.heap.size w w' := by
  obtain ⟨N, hN⟩ : ∃ N, w.heap.size = N := ⟨_, rfl⟩
  have HN := Lib.hid hN
  have HK := Lib.hid hk
  have H0 := Lib.hid h0
  have H1 := Lib.hid h1
  have HZ := Lib.hid zg_len
  clear hk h0 h1
  have i0 : ¬ (100 : Int) < (c0.size : Int) := by omega
  have i1 : ¬ m < 0 := by omega
  have i2 : ¬ n < 0 := by omega
  have i3 : (1000 : Int) < m := by omega
  clear b0 b1 b2 b3
  have hM0 : Below N w w := Below.refl _ _
  have hs0 : N ≤ w.heap.size := by omega
  have E_0 := Lib.hid (hE)
  clear hE
  go_enter Tryz.func8, Tryz.ntmps8
  go_wp2_with (first | ((with_reducible show wpList _ _ _ _ _ w); refine box_vb (w := w) rfl gdt _ rfl (gcs K T0 T1 a b m n) (by rfl) ?_; intro u0 hA0 hG0 hz0; have hL : Below w.heap.size w u0 := below_none (Below.refl _ _) (Nat.le_refl _) hG0; rw [hN] at hA0 ⊢; have hgB : GB u0 N gdt K T0 T1 a b m n := (hA0); clear hG0 hz0 hA0; have hM1 : Below N w u0 := below_more hM0 hL hs0; have hs1 : N ≤ u0.heap.size := Nat.le_trans hs0 (hL).size; have E_1 := Lib.hid (E_0.out.below hL); clear E_0; clear hM0 hs0; have g_1 := Lib.hid (hgB); clear hL hgB) | (go_at_call 40; (with_reducible show Calls _ _ _ u0 _); refine (awake24 u0 E_1.out).mono ?_; rintro e w2 ⟨rfl, hL⟩; have hM2 : Below N w w2 := below_more hM1 hL hs1; have hs2 : N ≤ w2.heap.size := Nat.le_trans hs1 (hL).size; have E_2 := Lib.hid (E_1.out.below hL); clear E_1; have g_2 := Lib.hid (g_1.out.next hL); clear g_1; clear hM1 hs1; clear hL; have cb0 := g_2.out.bad0 HK.out H0.out H1.out; have cb1 := g_2.out.bad1 HK.out H0.out H1.out) | (go_at_call 40; (with_reducible show Calls _ _ _ w2 _); refine (awake24 w2 E_2.out).mono ?_; rintro e w3 ⟨rfl, hL⟩; have hM3 : Below N w w3 := below_more hM2 hL hs2; have hs3 : N ≤ w3.heap.size := Nat.le_trans hs2 (hL).size; have E_3 := Lib.hid (E_2.out.below hL); clear E_2; have g_3 := Lib.hid (g_2.out.next hL); clear g_2; clear hM2 hs2; clear hL))
  go_ret
  exact ⟨rfl, by rw [HN.out]; exact hM3⟩
set_option maxHeartbeats 12800000 in
set_option maxRecDepth 100000 in
theorem GE_f4 (K T0 T1 : List UInt8) (a b : Bool) (m n : Int) (who : Int) (c0 : ByteArray) (w : World) (hE : Et w) (hk : K.length = 16) (h0 : T0.length = 16) (h1 : T1.length = 16) (b0 : c0.size ≤ 100) (b1 : 0 ≤ m) (b2 : 0 ≤ n) (b3 : m ≤ 1000) (b4 : 1000 < n) : Calls Tryz.prog 8 #[.agg (ga K T0 T1 a b m n), .int .i64 who, .string c0] w fun e w' => e = .returned (.bool true) ∧ Below w.heap.size w w' := by
  obtain ⟨N, hN⟩ : ∃ N, w.heap.size = N := ⟨_, rfl⟩
  have HN := Lib.hid hN
  have HK := Lib.hid hk
  have H0 := Lib.hid h0
  have H1 := Lib.hid h1
  have HZ := Lib.hid zg_len
  clear hk h0 h1
  have i0 : ¬ (100 : Int) < (c0.size : Int) := by omega
  have i1 : ¬ m < 0 := by omega
  have i2 : ¬ n < 0 := by omega
  have i3 : ¬ (1000 : Int) < m := by omega
  have i4 : (1000 : Int) < n := by omega
  clear b0 b1 b2 b3 b4
  have hM0 : Below N w w := Below.refl _ _
  have hs0 : N ≤ w.heap.size := by omega
  have E_0 := Lib.hid (hE)
  clear hE
  go_enter Tryz.func8, Tryz.ntmps8
  go_wp2_with (first | ((with_reducible show wpList _ _ _ _ _ w); refine box_vb (w := w) rfl gdt _ rfl (gcs K T0 T1 a b m n) (by rfl) ?_; intro u0 hA0 hG0 hz0; have hL : Below w.heap.size w u0 := below_none (Below.refl _ _) (Nat.le_refl _) hG0; rw [hN] at hA0 ⊢; have hgB : GB u0 N gdt K T0 T1 a b m n := (hA0); clear hG0 hz0 hA0; have hM1 : Below N w u0 := below_more hM0 hL hs0; have hs1 : N ≤ u0.heap.size := Nat.le_trans hs0 (hL).size; have E_1 := Lib.hid (E_0.out.below hL); clear E_0; clear hM0 hs0; have g_1 := Lib.hid (hgB); clear hL hgB) | (go_at_call 40; (with_reducible show Calls _ _ _ u0 _); refine (awake24 u0 E_1.out).mono ?_; rintro e w2 ⟨rfl, hL⟩; have hM2 : Below N w w2 := below_more hM1 hL hs1; have hs2 : N ≤ w2.heap.size := Nat.le_trans hs1 (hL).size; have E_2 := Lib.hid (E_1.out.below hL); clear E_1; have g_2 := Lib.hid (g_1.out.next hL); clear g_1; clear hM1 hs1; clear hL; have cb0 := g_2.out.bad0 HK.out H0.out H1.out; have cb1 := g_2.out.bad1 HK.out H0.out H1.out) | (go_at_call 40; (with_reducible show Calls _ _ _ w2 _); refine (awake24 w2 E_2.out).mono ?_; rintro e w3 ⟨rfl, hL⟩; have hM3 : Below N w w3 := below_more hM2 hL hs2; have hs3 : N ≤ w3.heap.size := Nat.le_trans hs2 (hL).size; have E_3 := Lib.hid (E_2.out.below hL); clear E_2; have g_3 := Lib.hid (g_2.out.next hL); clear g_2; clear hM2 hs2; clear hL))
  go_ret
  exact ⟨rfl, by rw [HN.out]; exact hM3⟩
end Go.Proofs.YtpfmhohldfnhmaaGreatDoor
set_option linter.unusedVariables false
set_option linter.unusedSimpArgs false
namespace Go.Proofs.YtpfmhohldfnhmaaGreatDoor
open Go Go.RowKit Lk
set_option maxHeartbeats 12800000 in
set_option maxRecDepth 100000 in
theorem GE_arg0 (K T0 T1 : List UInt8) (a b : Bool) (m n : Int) (who : Int) (c0 : ByteArray) (w : World) (hE : Et w) (hk : K.length = 16) (h0 : T0.length = 16) (h1 : T1.length = 16) (b0 : c0.size ≤ 100) (b1 : 0 ≤ m) (b2 : 0 ≤ n) (b3 : m ≤ 1000) (b4 : n ≤ 1000) (hw : who < 0) : Calls Tryz.prog 8 #[.agg (ga K T0 T1 a b m n), .int .i64 who, .string c0] w fun e w' => e = .returned (.bool true) ∧ Below w.heap.size w w' := by
  obtain ⟨N, hN⟩ : ∃ N, w.heap.size = N := ⟨_, rfl⟩
  have HN := Lib.hid hN
  have HK := Lib.hid hk
  have H0 := Lib.hid h0
  have H1 := Lib.hid h1
  have HZ := Lib.hid zg_len
  clear hk h0 h1
  have i0 : ¬ (100 : Int) < (c0.size : Int) := by omega
  have i1 : ¬ m < 0 := by omega
  have i2 : ¬ n < 0 := by omega
  have i3 : ¬ (1000 : Int) < m := by omega
  have i4 : ¬ (1000 : Int) < n := by omega
  have HW := Lib.hid (show who ≠ 0 ∧ who ≠ 1 by omega)
  have i5 : who < 0 := by omega
  clear hw
  clear b0 b1 b2 b3 b4
  have HAB : (a = false ∧ b = false) ∨ (a = false ∧ b = true) ∨ (a = true ∧ b = false) ∨ (a = true ∧ b = true) := by cases a <;> cases b <;> simp
  rcases HAB with ⟨hab, hbb⟩ | ⟨hab, hbb⟩ | ⟨hab, hbb⟩ | ⟨hab, hbb⟩ <;> (
  have HA := Lib.hid hab
  have HB := Lib.hid hbb
  have HNB := Lib.hid (and_of hab hbb)
  clear hab hbb
  have hM0 : Below N w w := Below.refl _ _
  have hs0 : N ≤ w.heap.size := by omega
  have E_0 := Lib.hid (hE)
  clear hE
  go_enter Tryz.func8, Tryz.ntmps8
  go_wp2_with (first | ((with_reducible show wpList _ _ _ _ _ w); refine box_vb (w := w) rfl gdt _ rfl (gcs K T0 T1 a b m n) (by rfl) ?_; intro u0 hA0 hG0 hz0; have hL : Below w.heap.size w u0 := below_none (Below.refl _ _) (Nat.le_refl _) hG0; rw [hN] at hA0 ⊢; have hgB : GB u0 N gdt K T0 T1 a b m n := (hA0); clear hG0 hz0 hA0; have hM1 : Below N w u0 := below_more hM0 hL hs0; have hs1 : N ≤ u0.heap.size := Nat.le_trans hs0 (hL).size; have E_1 := Lib.hid (E_0.out.below hL); clear E_0; clear hM0 hs0; have g_1 := Lib.hid (hgB); clear hL hgB) | (go_at_call 40; (with_reducible show Calls _ _ _ u0 _); refine (awake24 u0 E_1.out).mono ?_; rintro e w2 ⟨rfl, hL⟩; have hM2 : Below N w w2 := below_more hM1 hL hs1; have hs2 : N ≤ w2.heap.size := Nat.le_trans hs1 (hL).size; have E_2 := Lib.hid (E_1.out.below hL); clear E_1; have g_2 := Lib.hid (g_1.out.next hL); clear g_1; clear hM1 hs1; clear hL; have cb0 := g_2.out.bad0 HK.out H0.out H1.out; have cb1 := g_2.out.bad1 HK.out H0.out H1.out) | ((with_reducible show wpList _ _ _ _ _ w2); refine load_gd (w := w2) (by rfl) _ rfl N gdt K T0 T1 a b m n (by rfl) g_2.out HK.out H0.out H1.out ?_) | (go_at_call 41; (with_reducible show Calls _ _ _ w2 _); refine (Both_no K T0 T1 a b m n w2 HK.out H0.out H1.out HNB.out).mono ?_; rintro e w3 ⟨vb, rfl, hV, hL⟩; (first | replace hV : ErV w3 [0] 11 vb := (by rw [HA.out] at hV; exact hV) | replace hV : ErV w3 [1] 11 vb := (by rw [HA.out] at hV; exact hV)); clear cb0 cb1; have hM3 : Below N w w3 := below_more hM2 hL hs2; have hs3 : N ≤ w3.heap.size := Nat.le_trans hs2 (hL).size; have E_3 := Lib.hid (E_2.out.below hL); clear E_2; have g_3 := Lib.hid (g_2.out.next hL); clear g_2; clear hM2 hs2; have V_3 := Lib.hid (hV); clear hL hV; have ci0 := g_3.out.in0 HK.out H0.out H1.out; rw [HA.out] at ci0; have ci1 := g_3.out.in1 HK.out H0.out H1.out; rw [HB.out] at ci1) | (go_at_call 41; (with_reducible show Calls _ _ _ w2 _); refine (Both_yes K T0 T1 a b m n w2 HK.out H0.out H1.out HA.out HB.out).mono ?_; rintro e w5 ⟨rfl, hL⟩; clear cb0 cb1; have hM3 : Below N w w5 := below_more hM2 hL hs2; have hs3 : N ≤ w5.heap.size := Nat.le_trans hs2 (hL).size; have E_3 := Lib.hid (E_2.out.below hL); clear E_2; have g_3 := Lib.hid (g_2.out.next hL); clear g_2; clear hM2 hs2; clear hL; have hM5 := hM3; have hs5 := hs3; clear hM3 hs3; have E_5 := E_3; clear E_3; have g_5 := g_3; clear g_3; have ci0 := g_5.out.in0 HK.out H0.out H1.out; rw [HA.out] at ci0; have ci1 := g_5.out.in1 HK.out H0.out H1.out; rw [HB.out] at ci1) | (go_at_call 19; (with_reducible show Calls _ _ _ w3 _); refine (Code_any _ 11 _ w3 E_3.out V_3.out).mono ?_; rintro e w4 ⟨rfl, hL⟩; have hM4 : Below N w w4 := below_more hM3 hL hs3; have hs4 : N ≤ w4.heap.size := Nat.le_trans hs3 (hL).size; have E_4 := Lib.hid (E_3.out.below hL); clear E_3; have g_4 := Lib.hid (g_3.out.next hL); clear g_3; have V_4 := Lib.hid (V_3.out.below hL); clear V_3; clear hM3 hs3; clear hL; clear ci0 ci1; have ci0 := g_4.out.in0 HK.out H0.out H1.out; rw [HA.out] at ci0; have ci1 := g_4.out.in1 HK.out H0.out H1.out; rw [HB.out] at ci1) | (go_at_call 21; (with_reducible show Calls _ _ _ w4 _); refine (At_yes _ [] 11 _ w4 E_4.out V_4.out).mono ?_; rintro e w5 ⟨rfl, hL⟩; have hM5 : Below N w w5 := below_more hM4 hL hs4; have hs5 : N ≤ w5.heap.size := Nat.le_trans hs4 (hL).size; have E_5 := Lib.hid (E_4.out.below hL); clear E_4; have g_5 := Lib.hid (g_4.out.next hL); clear g_4; have V_5 := Lib.hid (V_4.out.below hL); clear V_4; clear hM4 hs4; clear hL; clear ci0 ci1; clear V_5; have ci0 := g_5.out.in0 HK.out H0.out H1.out; rw [HA.out] at ci0; have ci1 := g_5.out.in1 HK.out H0.out H1.out; rw [HB.out] at ci1) | ((with_reducible show wpList _ _ _ _ _ w5); refine load_gd (w := w5) (by rfl) _ rfl N gdt K T0 T1 a b m n (by rfl) g_5.out HK.out H0.out H1.out ?_) | (go_at_call 42; (with_reducible show Calls _ _ _ w5 _); refine (Leave_any K T0 T1 a b m n w5 HK.out H0.out H1.out).mono ?_; rintro e w6c ⟨rfl, hLc⟩) | ((with_reducible show wpList _ _ _ _ _ w6c); refine alloc_row (w := w6c) rfl gdt rfl (.agg (ga zg zg zg false false 0 0)) 52 (fun _ => by kernel_rfl) (by kernel_rfl) ?_; intro w6a hRa _ hGa hza) | ((with_reducible show wpList _ _ _ _ _ w6a); refine store_vr (w := w6a) rfl gdt _ _ rfl w6c.heap.size gdt 52 (gcs K T0 T1 false false m n) (by rfl) (by rfl) hRa (gcs_one _ _ _ _ _ _ _) (gcs_len _ _ _ _ _ _ _ HK.out H0.out H1.out) gdt_i ?_; intro w6 hBb hGb hzb; have hL : Below w5.heap.size w5 w6 := below_new (below_none hLc hLc.size hGa) (by have := hLc.size; omega) hGb hLc.size; obtain ⟨Go, eGx⟩ : ∃ g, w6c.heap.size = g := ⟨_, rfl⟩; have hgB : GB w6 Go gdt K T0 T1 false false m n := (by rw [← eGx]; exact hBb); rw [eGx]; clear hRa hGa hza hBb hGb hzb hLc eGx; have hM6 : Below N w w6 := below_more hM5 hL hs5; have hs6 : N ≤ w6.heap.size := Nat.le_trans hs5 (hL).size; have E_6 := Lib.hid (E_5.out.below hL); clear E_5; have g_6 := Lib.hid (g_5.out.next hL); clear g_5; clear hM5 hs5; have o_6 := Lib.hid (hgB); clear hL hgB) | ((with_reducible show wpList _ _ _ _ _ w6); refine load_gd (w := w6) (by rfl) _ rfl N gdt K T0 T1 a b m n (by rfl) g_6.out HK.out H0.out H1.out ?_) | ((with_reducible show wpList _ _ _ _ _ w6); refine alloc_row (w := w6) rfl gdt rfl (.agg (ga zg zg zg false false 0 0)) 52 (fun _ => by kernel_rfl) (by kernel_rfl) ?_; intro wa hRa _ hGa hza) | ((with_reducible show wpList _ _ _ _ _ wa); refine store_vr (w := wa) rfl gdt _ _ rfl w6.heap.size gdt 52 (gcs K T0 T1 a b m n) (by rfl) (by rfl) hRa (gcs_one _ _ _ _ _ _ _) (gcs_len _ _ _ _ _ _ _ HK.out H0.out H1.out) gdt_i ?_; intro wb hBb hGb hzb) | ((with_reducible show wpList _ _ _ _ _ wb); refine store_vb (w := wb) rfl 71 _ _ rfl w6.heap.size 48 gdt 2 (gcs K T0 T1 a b m n) [.bool false, .bool false] (by rfl) (by rfl) hBb (gcs_one _ _ _ _ _ _ _) (by intro u hu; simp only [List.mem_cons, List.not_mem_nil, or_false] at hu; rcases hu with rfl | rfl <;> rfl) rfl (by rw [gcs_len _ _ _ _ _ _ _ HK.out H0.out H1.out]; decide) (by kernel_rfl) ?_; intro w7 hBc hGc hzc; rw [gcs_in _ _ _ _ _ _ _ _ _ HK.out H0.out H1.out] at hBc; have hL0 : Below w6.heap.size w6 wb := below_new (below_none (Below.refl _ _) (Nat.le_refl _) hGa) hGa.size hGb (Nat.le_refl _); have hL : Below w6.heap.size w6 w7 := below_new hL0 (hL0.size) hGc (Nat.le_refl _); obtain ⟨Gw, eGx⟩ : ∃ g, w6.heap.size = g := ⟨_, rfl⟩; have hgB : GB w7 Gw gdt K T0 T1 false false m n := (by rw [← eGx]; exact hBc); have hgW := Lib.hid (show Below Gw w6 w7 from by rw [← eGx]; exact hL); have HGW := Lib.hid eGx; have HSB := Lib.hid hs6; have HMB := Lib.hid hM6; have HEB := E_6; have HGB := g_6; rw [eGx]; clear hRa hGa hza hBb hGb hzb hBc hGc hzc hL0 eGx; have hM7 : Below N w w7 := below_more hM6 hL hs6; have hs7 : N ≤ w7.heap.size := Nat.le_trans hs6 (hL).size; have E_7 := Lib.hid (E_6.out.below hL); clear E_6; have g_7 := Lib.hid (g_6.out.next hL); clear g_6; have o_7 := Lib.hid (o_6.out.next hL); clear o_6; clear hM6 hs6; have want_7 := Lib.hid (hgB); have MA_7 := Lib.hid (hgW.out); clear hL hgB hgW) | ((with_reducible show wpList _ _ _ _ _ w7); refine load_gd (w := w7) (by rfl) _ rfl Go gdt K T0 T1 false false m n (by rfl) o_7.out HK.out H0.out H1.out ?_) | ((with_reducible show wpList _ _ _ _ _ w7); refine load_gd (w := w7) (by rfl) _ rfl Gw gdt K T0 T1 false false m n (by rfl) want_7.out HK.out H0.out H1.out ?_) | ((with_reducible show wpList _ _ _ _ _ w7); refine op_neqh (w := w7) (by rfl) gdt _ _ _ rfl (ga K T0 T1 false false m n) (ga K T0 T1 false false m n) (by rfl) (by rfl) (by kernel_rfl) false (fun w => neq_ga w K T0 T1 false false m n HK.out H0.out H1.out) ?_) | ((with_reducible show wpList _ _ _ _ _ w7); refine load_gd (w := w7) (by rfl) _ rfl N gdt K T0 T1 a b m n (by rfl) g_7.out HK.out H0.out H1.out ?_) | (go_at_call 43; (with_reducible show Calls _ _ _ w7 _); refine (Enter_arg K T0 T1 a b m n who c0 w7 HK.out H0.out H1.out HW.out).mono ?_; rintro e w8c ⟨rfl, hLc⟩) | ((with_reducible show wpList _ _ _ _ _ w8c); refine alloc_row (w := w8c) rfl gdt rfl (.agg (ga zg zg zg false false 0 0)) 52 (fun _ => by kernel_rfl) (by kernel_rfl) ?_; intro w8a hRa _ hGa hza) | ((with_reducible show wpList _ _ _ _ _ w8a); refine store_vr (w := w8a) rfl gdt _ _ rfl w8c.heap.size gdt 52 (gcs K T0 T1 a b m n) (by rfl) (by rfl) hRa (gcs_one _ _ _ _ _ _ _) (gcs_len _ _ _ _ _ _ _ HK.out H0.out H1.out) gdt_i ?_; intro w8 hBb hGb hzb; have hL : Below w7.heap.size w7 w8 := below_new (below_none hLc hLc.size hGa) (by have := hLc.size; omega) hGb hLc.size; obtain ⟨Gh, eGx⟩ : ∃ g, w8c.heap.size = g := ⟨_, rfl⟩; have hgB : GB w8 Gh gdt K T0 T1 a b m n := (by rw [← eGx]; exact hBb); rw [eGx]; clear hRa hGa hza hBb hGb hzb hLc eGx; have MA_8 := Lib.hid (below_more MA_7.out hL (by have := HGW.out; have := MA_7.out.size; omega)); clear MA_7; have hM8 : Below N w w8 := below_more hM7 hL hs7; have hs8 : N ≤ w8.heap.size := Nat.le_trans hs7 (hL).size; have E_8 := Lib.hid (E_7.out.below hL); clear E_7; have g_8 := Lib.hid (g_7.out.next hL); clear g_7; have o_8 := Lib.hid (o_7.out.next hL); clear o_7; have want_8 := Lib.hid (want_7.out.next hL); clear want_7; clear hM7 hs7; have h_8 := Lib.hid (hgB); clear hL hgB; clear ci0 ci1; have cb0 := g_8.out.bad0 HK.out H0.out H1.out; have cb1 := g_8.out.bad1 HK.out H0.out H1.out) | (go_at_call 19; (with_reducible show Calls _ _ _ w8 _); refine (Code_any [] 1 _ w8 E_8.out rfl).mono ?_; rintro e w9 ⟨rfl, hL⟩; have MA_9 := Lib.hid (below_more MA_8.out hL (by have := HGW.out; have := MA_8.out.size; omega)); clear MA_8; have hM9 : Below N w w9 := below_more hM8 hL hs8; have hs9 : N ≤ w9.heap.size := Nat.le_trans hs8 (hL).size; have E_9 := Lib.hid (E_8.out.below hL); clear E_8; have g_9 := Lib.hid (g_8.out.next hL); clear g_8; have o_9 := Lib.hid (o_8.out.next hL); clear o_8; have want_9 := Lib.hid (want_8.out.next hL); clear want_8; have h_9 := Lib.hid (h_8.out.next hL); clear h_8; clear hM8 hs8; clear hL) | ((with_reducible show wpList _ _ _ _ _ w9); refine load_gd (w := w9) (by rfl) _ rfl Gh gdt K T0 T1 a b m n (by rfl) h_9.out HK.out H0.out H1.out ?_) | ((with_reducible show wpList _ _ _ _ _ w9); refine load_gd (w := w9) (by rfl) _ rfl N gdt K T0 T1 a b m n (by rfl) g_9.out HK.out H0.out H1.out ?_) | ((with_reducible show wpList _ _ _ _ _ w9); refine op_eqlg (w := w9) (by rfl) gdt _ _ _ rfl (ga K T0 T1 a b m n) (ga K T0 T1 a b m n) (by rfl) (by rfl) (by kernel_rfl) true (fun w => eql_ga w K T0 T1 a b m n HK.out H0.out H1.out) ?_))
  go_ret
  exact ⟨rfl, by rw [HN.out]; exact hM9⟩)
set_option maxHeartbeats 12800000 in
set_option maxRecDepth 100000 in
theorem GE_arg1 (K T0 T1 : List UInt8) (a b : Bool) (m n : Int) (who : Int) (c0 : ByteArray) (w : World) (hE : Et w) (hk : K.length = 16) (h0 : T0.length = 16) (h1 : T1.length = 16) (b0 : c0.size ≤ 100) (b1 : 0 ≤ m) (b2 : 0 ≤ n) (b3 : m ≤ 1000) (b4 : n ≤ 1000) (hw : 1 < who) : Calls Tryz.prog 8 #[.agg (ga K T0 T1 a b m n), .int .i64 who, .string c0] w fun e w' => e = .returned (.bool true) ∧ Below w.heap.size w w' := by
  obtain ⟨N, hN⟩ : ∃ N, w.heap.size = N := ⟨_, rfl⟩
  have HN := Lib.hid hN
  have HK := Lib.hid hk
  have H0 := Lib.hid h0
  have H1 := Lib.hid h1
  have HZ := Lib.hid zg_len
  clear hk h0 h1
  have i0 : ¬ (100 : Int) < (c0.size : Int) := by omega
  have i1 : ¬ m < 0 := by omega
  have i2 : ¬ n < 0 := by omega
  have i3 : ¬ (1000 : Int) < m := by omega
  have i4 : ¬ (1000 : Int) < n := by omega
  have HW := Lib.hid (show who ≠ 0 ∧ who ≠ 1 by omega)
  have i5 : ¬ who < 0 := by omega
  have i6 : (1 : Int) < who := by omega
  clear hw
  clear b0 b1 b2 b3 b4
  have HAB : (a = false ∧ b = false) ∨ (a = false ∧ b = true) ∨ (a = true ∧ b = false) ∨ (a = true ∧ b = true) := by cases a <;> cases b <;> simp
  rcases HAB with ⟨hab, hbb⟩ | ⟨hab, hbb⟩ | ⟨hab, hbb⟩ | ⟨hab, hbb⟩ <;> (
  have HA := Lib.hid hab
  have HB := Lib.hid hbb
  have HNB := Lib.hid (and_of hab hbb)
  clear hab hbb
  have hM0 : Below N w w := Below.refl _ _
  have hs0 : N ≤ w.heap.size := by omega
  have E_0 := Lib.hid (hE)
  clear hE
  go_enter Tryz.func8, Tryz.ntmps8
  go_wp2_with (first | ((with_reducible show wpList _ _ _ _ _ w); refine box_vb (w := w) rfl gdt _ rfl (gcs K T0 T1 a b m n) (by rfl) ?_; intro u0 hA0 hG0 hz0; have hL : Below w.heap.size w u0 := below_none (Below.refl _ _) (Nat.le_refl _) hG0; rw [hN] at hA0 ⊢; have hgB : GB u0 N gdt K T0 T1 a b m n := (hA0); clear hG0 hz0 hA0; have hM1 : Below N w u0 := below_more hM0 hL hs0; have hs1 : N ≤ u0.heap.size := Nat.le_trans hs0 (hL).size; have E_1 := Lib.hid (E_0.out.below hL); clear E_0; clear hM0 hs0; have g_1 := Lib.hid (hgB); clear hL hgB) | (go_at_call 40; (with_reducible show Calls _ _ _ u0 _); refine (awake24 u0 E_1.out).mono ?_; rintro e w2 ⟨rfl, hL⟩; have hM2 : Below N w w2 := below_more hM1 hL hs1; have hs2 : N ≤ w2.heap.size := Nat.le_trans hs1 (hL).size; have E_2 := Lib.hid (E_1.out.below hL); clear E_1; have g_2 := Lib.hid (g_1.out.next hL); clear g_1; clear hM1 hs1; clear hL; have cb0 := g_2.out.bad0 HK.out H0.out H1.out; have cb1 := g_2.out.bad1 HK.out H0.out H1.out) | ((with_reducible show wpList _ _ _ _ _ w2); refine load_gd (w := w2) (by rfl) _ rfl N gdt K T0 T1 a b m n (by rfl) g_2.out HK.out H0.out H1.out ?_) | (go_at_call 41; (with_reducible show Calls _ _ _ w2 _); refine (Both_no K T0 T1 a b m n w2 HK.out H0.out H1.out HNB.out).mono ?_; rintro e w3 ⟨vb, rfl, hV, hL⟩; (first | replace hV : ErV w3 [0] 11 vb := (by rw [HA.out] at hV; exact hV) | replace hV : ErV w3 [1] 11 vb := (by rw [HA.out] at hV; exact hV)); clear cb0 cb1; have hM3 : Below N w w3 := below_more hM2 hL hs2; have hs3 : N ≤ w3.heap.size := Nat.le_trans hs2 (hL).size; have E_3 := Lib.hid (E_2.out.below hL); clear E_2; have g_3 := Lib.hid (g_2.out.next hL); clear g_2; clear hM2 hs2; have V_3 := Lib.hid (hV); clear hL hV; have ci0 := g_3.out.in0 HK.out H0.out H1.out; rw [HA.out] at ci0; have ci1 := g_3.out.in1 HK.out H0.out H1.out; rw [HB.out] at ci1) | (go_at_call 41; (with_reducible show Calls _ _ _ w2 _); refine (Both_yes K T0 T1 a b m n w2 HK.out H0.out H1.out HA.out HB.out).mono ?_; rintro e w5 ⟨rfl, hL⟩; clear cb0 cb1; have hM3 : Below N w w5 := below_more hM2 hL hs2; have hs3 : N ≤ w5.heap.size := Nat.le_trans hs2 (hL).size; have E_3 := Lib.hid (E_2.out.below hL); clear E_2; have g_3 := Lib.hid (g_2.out.next hL); clear g_2; clear hM2 hs2; clear hL; have hM5 := hM3; have hs5 := hs3; clear hM3 hs3; have E_5 := E_3; clear E_3; have g_5 := g_3; clear g_3; have ci0 := g_5.out.in0 HK.out H0.out H1.out; rw [HA.out] at ci0; have ci1 := g_5.out.in1 HK.out H0.out H1.out; rw [HB.out] at ci1) | (go_at_call 19; (with_reducible show Calls _ _ _ w3 _); refine (Code_any _ 11 _ w3 E_3.out V_3.out).mono ?_; rintro e w4 ⟨rfl, hL⟩; have hM4 : Below N w w4 := below_more hM3 hL hs3; have hs4 : N ≤ w4.heap.size := Nat.le_trans hs3 (hL).size; have E_4 := Lib.hid (E_3.out.below hL); clear E_3; have g_4 := Lib.hid (g_3.out.next hL); clear g_3; have V_4 := Lib.hid (V_3.out.below hL); clear V_3; clear hM3 hs3; clear hL; clear ci0 ci1; have ci0 := g_4.out.in0 HK.out H0.out H1.out; rw [HA.out] at ci0; have ci1 := g_4.out.in1 HK.out H0.out H1.out; rw [HB.out] at ci1) | (go_at_call 21; (with_reducible show Calls _ _ _ w4 _); refine (At_yes _ [] 11 _ w4 E_4.out V_4.out).mono ?_; rintro e w5 ⟨rfl, hL⟩; have hM5 : Below N w w5 := below_more hM4 hL hs4; have hs5 : N ≤ w5.heap.size := Nat.le_trans hs4 (hL).size; have E_5 := Lib.hid (E_4.out.below hL); clear E_4; have g_5 := Lib.hid (g_4.out.next hL); clear g_4; have V_5 := Lib.hid (V_4.out.below hL); clear V_4; clear hM4 hs4; clear hL; clear ci0 ci1; clear V_5; have ci0 := g_5.out.in0 HK.out H0.out H1.out; rw [HA.out] at ci0; have ci1 := g_5.out.in1 HK.out H0.out H1.out; rw [HB.out] at ci1) | ((with_reducible show wpList _ _ _ _ _ w5); refine load_gd (w := w5) (by rfl) _ rfl N gdt K T0 T1 a b m n (by rfl) g_5.out HK.out H0.out H1.out ?_) | (go_at_call 42; (with_reducible show Calls _ _ _ w5 _); refine (Leave_any K T0 T1 a b m n w5 HK.out H0.out H1.out).mono ?_; rintro e w6c ⟨rfl, hLc⟩) | ((with_reducible show wpList _ _ _ _ _ w6c); refine alloc_row (w := w6c) rfl gdt rfl (.agg (ga zg zg zg false false 0 0)) 52 (fun _ => by kernel_rfl) (by kernel_rfl) ?_; intro w6a hRa _ hGa hza) | ((with_reducible show wpList _ _ _ _ _ w6a); refine store_vr (w := w6a) rfl gdt _ _ rfl w6c.heap.size gdt 52 (gcs K T0 T1 false false m n) (by rfl) (by rfl) hRa (gcs_one _ _ _ _ _ _ _) (gcs_len _ _ _ _ _ _ _ HK.out H0.out H1.out) gdt_i ?_; intro w6 hBb hGb hzb; have hL : Below w5.heap.size w5 w6 := below_new (below_none hLc hLc.size hGa) (by have := hLc.size; omega) hGb hLc.size; obtain ⟨Go, eGx⟩ : ∃ g, w6c.heap.size = g := ⟨_, rfl⟩; have hgB : GB w6 Go gdt K T0 T1 false false m n := (by rw [← eGx]; exact hBb); rw [eGx]; clear hRa hGa hza hBb hGb hzb hLc eGx; have hM6 : Below N w w6 := below_more hM5 hL hs5; have hs6 : N ≤ w6.heap.size := Nat.le_trans hs5 (hL).size; have E_6 := Lib.hid (E_5.out.below hL); clear E_5; have g_6 := Lib.hid (g_5.out.next hL); clear g_5; clear hM5 hs5; have o_6 := Lib.hid (hgB); clear hL hgB) | ((with_reducible show wpList _ _ _ _ _ w6); refine load_gd (w := w6) (by rfl) _ rfl N gdt K T0 T1 a b m n (by rfl) g_6.out HK.out H0.out H1.out ?_) | ((with_reducible show wpList _ _ _ _ _ w6); refine alloc_row (w := w6) rfl gdt rfl (.agg (ga zg zg zg false false 0 0)) 52 (fun _ => by kernel_rfl) (by kernel_rfl) ?_; intro wa hRa _ hGa hza) | ((with_reducible show wpList _ _ _ _ _ wa); refine store_vr (w := wa) rfl gdt _ _ rfl w6.heap.size gdt 52 (gcs K T0 T1 a b m n) (by rfl) (by rfl) hRa (gcs_one _ _ _ _ _ _ _) (gcs_len _ _ _ _ _ _ _ HK.out H0.out H1.out) gdt_i ?_; intro wb hBb hGb hzb) | ((with_reducible show wpList _ _ _ _ _ wb); refine store_vb (w := wb) rfl 71 _ _ rfl w6.heap.size 48 gdt 2 (gcs K T0 T1 a b m n) [.bool false, .bool false] (by rfl) (by rfl) hBb (gcs_one _ _ _ _ _ _ _) (by intro u hu; simp only [List.mem_cons, List.not_mem_nil, or_false] at hu; rcases hu with rfl | rfl <;> rfl) rfl (by rw [gcs_len _ _ _ _ _ _ _ HK.out H0.out H1.out]; decide) (by kernel_rfl) ?_; intro w7 hBc hGc hzc; rw [gcs_in _ _ _ _ _ _ _ _ _ HK.out H0.out H1.out] at hBc; have hL0 : Below w6.heap.size w6 wb := below_new (below_none (Below.refl _ _) (Nat.le_refl _) hGa) hGa.size hGb (Nat.le_refl _); have hL : Below w6.heap.size w6 w7 := below_new hL0 (hL0.size) hGc (Nat.le_refl _); obtain ⟨Gw, eGx⟩ : ∃ g, w6.heap.size = g := ⟨_, rfl⟩; have hgB : GB w7 Gw gdt K T0 T1 false false m n := (by rw [← eGx]; exact hBc); have hgW := Lib.hid (show Below Gw w6 w7 from by rw [← eGx]; exact hL); have HGW := Lib.hid eGx; have HSB := Lib.hid hs6; have HMB := Lib.hid hM6; have HEB := E_6; have HGB := g_6; rw [eGx]; clear hRa hGa hza hBb hGb hzb hBc hGc hzc hL0 eGx; have hM7 : Below N w w7 := below_more hM6 hL hs6; have hs7 : N ≤ w7.heap.size := Nat.le_trans hs6 (hL).size; have E_7 := Lib.hid (E_6.out.below hL); clear E_6; have g_7 := Lib.hid (g_6.out.next hL); clear g_6; have o_7 := Lib.hid (o_6.out.next hL); clear o_6; clear hM6 hs6; have want_7 := Lib.hid (hgB); have MA_7 := Lib.hid (hgW.out); clear hL hgB hgW) | ((with_reducible show wpList _ _ _ _ _ w7); refine load_gd (w := w7) (by rfl) _ rfl Go gdt K T0 T1 false false m n (by rfl) o_7.out HK.out H0.out H1.out ?_) | ((with_reducible show wpList _ _ _ _ _ w7); refine load_gd (w := w7) (by rfl) _ rfl Gw gdt K T0 T1 false false m n (by rfl) want_7.out HK.out H0.out H1.out ?_) | ((with_reducible show wpList _ _ _ _ _ w7); refine op_neqh (w := w7) (by rfl) gdt _ _ _ rfl (ga K T0 T1 false false m n) (ga K T0 T1 false false m n) (by rfl) (by rfl) (by kernel_rfl) false (fun w => neq_ga w K T0 T1 false false m n HK.out H0.out H1.out) ?_) | ((with_reducible show wpList _ _ _ _ _ w7); refine load_gd (w := w7) (by rfl) _ rfl N gdt K T0 T1 a b m n (by rfl) g_7.out HK.out H0.out H1.out ?_) | (go_at_call 43; (with_reducible show Calls _ _ _ w7 _); refine (Enter_arg K T0 T1 a b m n who c0 w7 HK.out H0.out H1.out HW.out).mono ?_; rintro e w8c ⟨rfl, hLc⟩) | ((with_reducible show wpList _ _ _ _ _ w8c); refine alloc_row (w := w8c) rfl gdt rfl (.agg (ga zg zg zg false false 0 0)) 52 (fun _ => by kernel_rfl) (by kernel_rfl) ?_; intro w8a hRa _ hGa hza) | ((with_reducible show wpList _ _ _ _ _ w8a); refine store_vr (w := w8a) rfl gdt _ _ rfl w8c.heap.size gdt 52 (gcs K T0 T1 a b m n) (by rfl) (by rfl) hRa (gcs_one _ _ _ _ _ _ _) (gcs_len _ _ _ _ _ _ _ HK.out H0.out H1.out) gdt_i ?_; intro w8 hBb hGb hzb; have hL : Below w7.heap.size w7 w8 := below_new (below_none hLc hLc.size hGa) (by have := hLc.size; omega) hGb hLc.size; obtain ⟨Gh, eGx⟩ : ∃ g, w8c.heap.size = g := ⟨_, rfl⟩; have hgB : GB w8 Gh gdt K T0 T1 a b m n := (by rw [← eGx]; exact hBb); rw [eGx]; clear hRa hGa hza hBb hGb hzb hLc eGx; have MA_8 := Lib.hid (below_more MA_7.out hL (by have := HGW.out; have := MA_7.out.size; omega)); clear MA_7; have hM8 : Below N w w8 := below_more hM7 hL hs7; have hs8 : N ≤ w8.heap.size := Nat.le_trans hs7 (hL).size; have E_8 := Lib.hid (E_7.out.below hL); clear E_7; have g_8 := Lib.hid (g_7.out.next hL); clear g_7; have o_8 := Lib.hid (o_7.out.next hL); clear o_7; have want_8 := Lib.hid (want_7.out.next hL); clear want_7; clear hM7 hs7; have h_8 := Lib.hid (hgB); clear hL hgB; clear ci0 ci1; have cb0 := g_8.out.bad0 HK.out H0.out H1.out; have cb1 := g_8.out.bad1 HK.out H0.out H1.out) | (go_at_call 19; (with_reducible show Calls _ _ _ w8 _); refine (Code_any [] 1 _ w8 E_8.out rfl).mono ?_; rintro e w9 ⟨rfl, hL⟩; have MA_9 := Lib.hid (below_more MA_8.out hL (by have := HGW.out; have := MA_8.out.size; omega)); clear MA_8; have hM9 : Below N w w9 := below_more hM8 hL hs8; have hs9 : N ≤ w9.heap.size := Nat.le_trans hs8 (hL).size; have E_9 := Lib.hid (E_8.out.below hL); clear E_8; have g_9 := Lib.hid (g_8.out.next hL); clear g_8; have o_9 := Lib.hid (o_8.out.next hL); clear o_8; have want_9 := Lib.hid (want_8.out.next hL); clear want_8; have h_9 := Lib.hid (h_8.out.next hL); clear h_8; clear hM8 hs8; clear hL) | ((with_reducible show wpList _ _ _ _ _ w9); refine load_gd (w := w9) (by rfl) _ rfl Gh gdt K T0 T1 a b m n (by rfl) h_9.out HK.out H0.out H1.out ?_) | ((with_reducible show wpList _ _ _ _ _ w9); refine load_gd (w := w9) (by rfl) _ rfl N gdt K T0 T1 a b m n (by rfl) g_9.out HK.out H0.out H1.out ?_) | ((with_reducible show wpList _ _ _ _ _ w9); refine op_eqlg (w := w9) (by rfl) gdt _ _ _ rfl (ga K T0 T1 a b m n) (ga K T0 T1 a b m n) (by rfl) (by rfl) (by kernel_rfl) true (fun w => eql_ga w K T0 T1 a b m n HK.out H0.out H1.out) ?_))
  go_ret
  exact ⟨rfl, by rw [HN.out]; exact hM9⟩)
end Go.Proofs.YtpfmhohldfnhmaaGreatDoor
