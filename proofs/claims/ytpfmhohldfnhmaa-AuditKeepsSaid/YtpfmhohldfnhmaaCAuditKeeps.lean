/- what is handed in stays; each note counts one up, and a note that is none changes nothing -/
import Derived.Test.YtpfmhohldfnhmaaKAU1
import Derived.Test.YtpfmhohldfnhmaaKAU2
import Derived.Test.YtpfmhohldfnhmaaKB0
import Derived.WalkKit
import Derived.ProofKit
import Derived.OpenShut
import Derived.ShutString
import Derived.ChangeOld
import Derived.SizedLaws
import Derived.ChangeSlices
import Derived.Test.YtpfmhohldfnhmaaKAU0
import Derived.Test.YtpfmhohldfnhmaaRows
set_option linter.unusedVariables false
set_option linter.unusedSimpArgs false
namespace Go.Proofs.Ytpfmhohldfnhmaa
open Go Go.RowKit Lk
theorem rec_cases (l : List UInt8) : (∃ b1 b2 b3 b4 m2, l = 5 :: b1 :: b2 :: b3 :: b4 :: m2 ∧ m2.length = 16) ∨ (∃ t, l = 6 :: t ∧ 1 ≤ t.length ∧ t.length ≤ 60) ∨ ((l.length = 21 → g8 l 0 ≠ 5) ∧ (l.length < 2 ∨ 61 < l.length ∨ g8 l 0 ≠ 6)) := by
  by_cases h : l.length = 21 ∧ g8 l 0 = 5
  · obtain ⟨h1, h2⟩ := h
    match l, h1, h2 with
    | b :: b1 :: b2 :: b3 :: b4 :: m2, h1, h2 =>
      have hb : b = 5 := h2
      subst hb
      exact .inl ⟨b1, b2, b3, b4, m2, rfl, by simpa using h1⟩
  · by_cases h6 : 2 ≤ l.length ∧ l.length ≤ 61 ∧ g8 l 0 = 6
    · obtain ⟨h1, h2, h3⟩ := h6
      match l, h1, h2, h3 with
      | b :: t, h1, h2, h3 =>
        have hb : b = 6 := h3
        subst hb
        rw [List.length_cons] at h1 h2
        exact .inr (.inl ⟨t, rfl, by omega, by omega⟩)
    · refine .inr (.inr ⟨fun h1 h2 => h ⟨h1, h2⟩, ?_⟩)
      by_cases h1 : l.length < 2
      · exact .inl h1
      by_cases h2 : 61 < l.length
      · exact .inr (.inl h2)
      · exact .inr (.inr fun h3 => h6 ⟨by omega, by omega, h3⟩)
theorem Apply_refused (vk ve : Value) (z : Int) (m l : List UInt8) (w : World) (he : SlB w ve l) (hl : l.length ≤ 1000) (hm : m.length = 16) (h5 : l.length = 21 → g8 l 0 ≠ 5) (h6 : l.length < 2 ∨ 61 < l.length ∨ g8 l 0 ≠ 6) :
    Calls Try.prog 7 #[vk, .agg (ch z m), ve] w fun e w' => e = .returned (.tuple #[.agg (ch z m), .iface 49 (.int .i64 6)]) ∧ Below w.heap.size w w' := by
  by_cases h : 0 < l.length → g8 l 0 ≠ 6
  · exact Apply_bad vk ve z m l w he hl hm h5 h
  · have h0 : 0 < l.length := by
      rcases Nat.eq_zero_or_pos l.length with e | e
      · exact absurd (fun h' => absurd h' (by omega)) h
      · exact e
    have h1 : g8 l 0 = 6 := Classical.byContradiction fun hc => h (fun _ => hc)
    match l, h0, h1 with
    | b :: t, h0, h1 =>
      have hb : b = 6 := h1
      subst hb
      rw [List.length_cons] at h6 hl
      refine Apply_unnoted vk ve z m t w he (by omega) hm ?_
      rcases h6 with h6 | h6 | h6
      · exact .inl (by omega)
      · exact .inr (by omega)
      · exact absurd h1 h6
end Go.Proofs.Ytpfmhohldfnhmaa
set_option linter.unusedVariables false
set_option linter.unusedSimpArgs false
namespace Go.Proofs.Ytpfmhohldfnhmaa
open Go Go.RowKit Lk
set_option maxHeartbeats 12800000 in
set_option maxRecDepth 100000 in
theorem AK_f0 (vk ve : Value) (key : List UInt8) (z : Int) (m l : List UInt8) (s : ByteArray) (w : World) (hk : SlB w vk key) (hm : m.length = 16) (he : SlB w ve l) (b0 : ¬ key.length ≤ 100) : Calls Try.prog 4 #[vk, .agg (ch z m), .string s, ve] w fun e w' => e = .returned (.bool true) ∧ Below w.heap.size w w' := by
  obtain ⟨N, hN⟩ : ∃ N, w.heap.size = N := ⟨_, rfl⟩
  have HN := Lib.hid hN
  have HM := Lib.hid hm
  obtain ⟨LK, hL⟩ : ∃ L, key.length = L := ⟨_, rfl⟩
  obtain ⟨Ak, ck, rfl, hck⟩ := hk.formc hL
  obtain ⟨LR, hLR⟩ : ∃ L, l.length = L := ⟨_, rfl⟩
  obtain ⟨Ar, cr, rfl, hcr⟩ := he.formc hLR
  have i0 : decide ((100 : Int) < (LK : Int)) = true := by simp; omega
  have hM0 : Below N w w := Below.refl _ _
  have hs0 : N ≤ w.heap.size := by omega
  go_enter Try.func4, Try.ntmps4
  go_wp2_with (first | ((with_reducible show wpList _ _ _ _ _ w); refine box_ch (w := w) rfl 27 _ rfl z m (by rfl) ?_; intro u1 hA0 hG0 hz0; have hL : Below w.heap.size w u1 := below_none (Below.refl _ _) (Nat.le_refl _) hG0; rw [hN] at hA0 ⊢; clear hG0 hz0; have hM1 : Below N w u1 := below_more hM0 hL hs0; have hs1 : N ≤ u1.heap.size := Nat.le_trans hs0 (hL).size; clear hM0 hs0; have C_1 := Lib.hid (hA0); clear hL hA0) | (go_at_call 6; (with_reducible show Calls _ _ _ u1 _); refine (awake23 u1).mono ?_; rintro e w2 ⟨rfl, hL⟩; have hM2 : Below N w w2 := below_more hM1 hL hs1; have hs2 : N ≤ w2.heap.size := Nat.le_trans hs1 (hL).size; have C_2 := Lib.hid (C_1.out.under hL); clear C_1; clear hM1 hs1; clear hL) | (go_at_call 6; (with_reducible show Calls _ _ _ w2 _); refine (awake23 w2).mono ?_; rintro e w3 ⟨rfl, hL⟩; have hM3 : Below N w w3 := below_more hM2 hL hs2; have hs3 : N ≤ w3.heap.size := Nat.le_trans hs2 (hL).size; have C_3 := Lib.hid (C_2.out.under hL); clear C_2; clear hM2 hs2; clear hL))
  go_ret
  exact ⟨rfl, by first | exact hM3 | (rw [HN.out]; exact hM3)⟩
set_option maxHeartbeats 12800000 in
set_option maxRecDepth 100000 in
theorem AK_f1 (vk ve : Value) (key : List UInt8) (z : Int) (m l : List UInt8) (s : ByteArray) (w : World) (hk : SlB w vk key) (hm : m.length = 16) (he : SlB w ve l) (b0 : key.length ≤ 100) (b1 : ¬ s.size ≤ 200) : Calls Try.prog 4 #[vk, .agg (ch z m), .string s, ve] w fun e w' => e = .returned (.bool true) ∧ Below w.heap.size w w' := by
  obtain ⟨N, hN⟩ : ∃ N, w.heap.size = N := ⟨_, rfl⟩
  have HN := Lib.hid hN
  have HM := Lib.hid hm
  obtain ⟨LK, hL⟩ : ∃ L, key.length = L := ⟨_, rfl⟩
  obtain ⟨Ak, ck, rfl, hck⟩ := hk.formc hL
  obtain ⟨LR, hLR⟩ : ∃ L, l.length = L := ⟨_, rfl⟩
  obtain ⟨Ar, cr, rfl, hcr⟩ := he.formc hLR
  have i0 : decide ((100 : Int) < (LK : Int)) = false := by simp; omega
  have i1 : decide ((200 : Int) < (s.size : Int)) = true := by simp; omega
  have hM0 : Below N w w := Below.refl _ _
  have hs0 : N ≤ w.heap.size := by omega
  go_enter Try.func4, Try.ntmps4
  go_wp2_with (first | ((with_reducible show wpList _ _ _ _ _ w); refine box_ch (w := w) rfl 27 _ rfl z m (by rfl) ?_; intro u1 hA0 hG0 hz0; have hL : Below w.heap.size w u1 := below_none (Below.refl _ _) (Nat.le_refl _) hG0; rw [hN] at hA0 ⊢; clear hG0 hz0; have hM1 : Below N w u1 := below_more hM0 hL hs0; have hs1 : N ≤ u1.heap.size := Nat.le_trans hs0 (hL).size; clear hM0 hs0; have C_1 := Lib.hid (hA0); clear hL hA0) | (go_at_call 6; (with_reducible show Calls _ _ _ u1 _); refine (awake23 u1).mono ?_; rintro e w2 ⟨rfl, hL⟩; have hM2 : Below N w w2 := below_more hM1 hL hs1; have hs2 : N ≤ w2.heap.size := Nat.le_trans hs1 (hL).size; have C_2 := Lib.hid (C_1.out.under hL); clear C_1; clear hM1 hs1; clear hL) | (go_at_call 6; (with_reducible show Calls _ _ _ w2 _); refine (awake23 w2).mono ?_; rintro e w3 ⟨rfl, hL⟩; have hM3 : Below N w w3 := below_more hM2 hL hs2; have hs3 : N ≤ w3.heap.size := Nat.le_trans hs2 (hL).size; have C_3 := Lib.hid (C_2.out.under hL); clear C_2; clear hM2 hs2; clear hL))
  go_ret
  exact ⟨rfl, by first | exact hM3 | (rw [HN.out]; exact hM3)⟩
set_option maxHeartbeats 12800000 in
set_option maxRecDepth 100000 in
theorem AK_f2 (vk ve : Value) (key : List UInt8) (z : Int) (m l : List UInt8) (s : ByteArray) (w : World) (hk : SlB w vk key) (hm : m.length = 16) (he : SlB w ve l) (b0 : key.length ≤ 100) (b1 : s.size ≤ 200) (b2 : ¬ l.length ≤ 200) : Calls Try.prog 4 #[vk, .agg (ch z m), .string s, ve] w fun e w' => e = .returned (.bool true) ∧ Below w.heap.size w w' := by
  obtain ⟨N, hN⟩ : ∃ N, w.heap.size = N := ⟨_, rfl⟩
  have HN := Lib.hid hN
  have HM := Lib.hid hm
  obtain ⟨LK, hL⟩ : ∃ L, key.length = L := ⟨_, rfl⟩
  obtain ⟨Ak, ck, rfl, hck⟩ := hk.formc hL
  obtain ⟨LR, hLR⟩ : ∃ L, l.length = L := ⟨_, rfl⟩
  obtain ⟨Ar, cr, rfl, hcr⟩ := he.formc hLR
  have i0 : decide ((100 : Int) < (LK : Int)) = false := by simp; omega
  have i1 : decide ((200 : Int) < (s.size : Int)) = false := by simp; omega
  have i2 : decide ((200 : Int) < (LR : Int)) = true := by simp; omega
  have hM0 : Below N w w := Below.refl _ _
  have hs0 : N ≤ w.heap.size := by omega
  go_enter Try.func4, Try.ntmps4
  go_wp2_with (first | ((with_reducible show wpList _ _ _ _ _ w); refine box_ch (w := w) rfl 27 _ rfl z m (by rfl) ?_; intro u1 hA0 hG0 hz0; have hL : Below w.heap.size w u1 := below_none (Below.refl _ _) (Nat.le_refl _) hG0; rw [hN] at hA0 ⊢; clear hG0 hz0; have hM1 : Below N w u1 := below_more hM0 hL hs0; have hs1 : N ≤ u1.heap.size := Nat.le_trans hs0 (hL).size; clear hM0 hs0; have C_1 := Lib.hid (hA0); clear hL hA0) | (go_at_call 6; (with_reducible show Calls _ _ _ u1 _); refine (awake23 u1).mono ?_; rintro e w2 ⟨rfl, hL⟩; have hM2 : Below N w w2 := below_more hM1 hL hs1; have hs2 : N ≤ w2.heap.size := Nat.le_trans hs1 (hL).size; have C_2 := Lib.hid (C_1.out.under hL); clear C_1; clear hM1 hs1; clear hL) | (go_at_call 6; (with_reducible show Calls _ _ _ w2 _); refine (awake23 w2).mono ?_; rintro e w3 ⟨rfl, hL⟩; have hM3 : Below N w w3 := below_more hM2 hL hs2; have hs3 : N ≤ w3.heap.size := Nat.le_trans hs2 (hL).size; have C_3 := Lib.hid (C_2.out.under hL); clear C_2; clear hM2 hs2; clear hL))
  go_ret
  exact ⟨rfl, by first | exact hM3 | (rw [HN.out]; exact hM3)⟩
set_option maxHeartbeats 12800000 in
set_option maxRecDepth 100000 in
theorem AK_f3 (vk ve : Value) (key : List UInt8) (z : Int) (m l : List UInt8) (s : ByteArray) (w : World) (hk : SlB w vk key) (hm : m.length = 16) (he : SlB w ve l) (b0 : key.length ≤ 100) (b1 : s.size ≤ 200) (b2 : l.length ≤ 200) (r0 : ¬ 0 ≤ z) : Calls Try.prog 4 #[vk, .agg (ch z m), .string s, ve] w fun e w' => e = .returned (.bool true) ∧ Below w.heap.size w w' := by
  obtain ⟨N, hN⟩ : ∃ N, w.heap.size = N := ⟨_, rfl⟩
  have HN := Lib.hid hN
  have HM := Lib.hid hm
  obtain ⟨LK, hL⟩ : ∃ L, key.length = L := ⟨_, rfl⟩
  obtain ⟨Ak, ck, rfl, hck⟩ := hk.formc hL
  obtain ⟨LR, hLR⟩ : ∃ L, l.length = L := ⟨_, rfl⟩
  obtain ⟨Ar, cr, rfl, hcr⟩ := he.formc hLR
  have i0 : decide ((100 : Int) < (LK : Int)) = false := by simp; omega
  have i1 : decide ((200 : Int) < (s.size : Int)) = false := by simp; omega
  have i2 : decide ((200 : Int) < (LR : Int)) = false := by simp; omega
  have R0 := Lib.hid r0
  have hM0 : Below N w w := Below.refl _ _
  have hs0 : N ≤ w.heap.size := by omega
  go_enter Try.func4, Try.ntmps4
  go_wp2_with (first | ((with_reducible show wpList _ _ _ _ _ w); refine box_ch (w := w) rfl 27 _ rfl z m (by rfl) ?_; intro u1 hA0 hG0 hz0; have hL : Below w.heap.size w u1 := below_none (Below.refl _ _) (Nat.le_refl _) hG0; rw [hN] at hA0 ⊢; clear hG0 hz0; have hM1 : Below N w u1 := below_more hM0 hL hs0; have hs1 : N ≤ u1.heap.size := Nat.le_trans hs0 (hL).size; clear hM0 hs0; have C_1 := Lib.hid (hA0); clear hL hA0) | (go_at_call 6; (with_reducible show Calls _ _ _ u1 _); refine (awake23 u1).mono ?_; rintro e w2 ⟨rfl, hL⟩; have hM2 : Below N w w2 := below_more hM1 hL hs1; have hs2 : N ≤ w2.heap.size := Nat.le_trans hs1 (hL).size; have C_2 := Lib.hid (C_1.out.under hL); clear C_1; clear hM1 hs1; clear hL) | ((with_reducible show wpList _ _ _ _ _ w2); refine load_ch (w := w2) (by rfl) _ rfl N 27 z m (by rfl) C_2.out HM.out ?_) | (go_at_call 12; (with_reducible show Calls _ _ _ w2 _); refine (Right_low z m w2 (by have := R0.out; omega)).mono ?_; rintro e w3 ⟨rfl, hL⟩; have hM3 : Below N w w3 := below_more hM2 hL hs2; have hs3 : N ≤ w3.heap.size := Nat.le_trans hs2 (hL).size; have C_3 := Lib.hid (C_2.out.under hL); clear C_2; clear hM2 hs2; clear hL) | (go_at_call 6; (with_reducible show Calls _ _ _ w3 _); refine (awake23 w3).mono ?_; rintro e w4 ⟨rfl, hL⟩; have hM4 : Below N w w4 := below_more hM3 hL hs3; have hs4 : N ≤ w4.heap.size := Nat.le_trans hs3 (hL).size; have C_4 := Lib.hid (C_3.out.under hL); clear C_3; clear hM3 hs3; clear hL))
  go_ret
  exact ⟨rfl, by first | exact hM4 | (rw [HN.out]; exact hM4)⟩
set_option maxHeartbeats 12800000 in
set_option maxRecDepth 100000 in
theorem AK_f4 (vk ve : Value) (key : List UInt8) (z : Int) (m l : List UInt8) (s : ByteArray) (w : World) (hk : SlB w vk key) (hm : m.length = 16) (he : SlB w ve l) (b0 : key.length ≤ 100) (b1 : s.size ≤ 200) (b2 : l.length ≤ 200) (r0 : 0 ≤ z) (r1 : ¬ z ≤ 4294967295) : Calls Try.prog 4 #[vk, .agg (ch z m), .string s, ve] w fun e w' => e = .returned (.bool true) ∧ Below w.heap.size w w' := by
  obtain ⟨N, hN⟩ : ∃ N, w.heap.size = N := ⟨_, rfl⟩
  have HN := Lib.hid hN
  have HM := Lib.hid hm
  obtain ⟨LK, hL⟩ : ∃ L, key.length = L := ⟨_, rfl⟩
  obtain ⟨Ak, ck, rfl, hck⟩ := hk.formc hL
  obtain ⟨LR, hLR⟩ : ∃ L, l.length = L := ⟨_, rfl⟩
  obtain ⟨Ar, cr, rfl, hcr⟩ := he.formc hLR
  have i0 : decide ((100 : Int) < (LK : Int)) = false := by simp; omega
  have i1 : decide ((200 : Int) < (s.size : Int)) = false := by simp; omega
  have i2 : decide ((200 : Int) < (LR : Int)) = false := by simp; omega
  have R0 := Lib.hid r0
  have R1 := Lib.hid r1
  have hM0 : Below N w w := Below.refl _ _
  have hs0 : N ≤ w.heap.size := by omega
  go_enter Try.func4, Try.ntmps4
  go_wp2_with (first | ((with_reducible show wpList _ _ _ _ _ w); refine box_ch (w := w) rfl 27 _ rfl z m (by rfl) ?_; intro u1 hA0 hG0 hz0; have hL : Below w.heap.size w u1 := below_none (Below.refl _ _) (Nat.le_refl _) hG0; rw [hN] at hA0 ⊢; clear hG0 hz0; have hM1 : Below N w u1 := below_more hM0 hL hs0; have hs1 : N ≤ u1.heap.size := Nat.le_trans hs0 (hL).size; clear hM0 hs0; have C_1 := Lib.hid (hA0); clear hL hA0) | (go_at_call 6; (with_reducible show Calls _ _ _ u1 _); refine (awake23 u1).mono ?_; rintro e w2 ⟨rfl, hL⟩; have hM2 : Below N w w2 := below_more hM1 hL hs1; have hs2 : N ≤ w2.heap.size := Nat.le_trans hs1 (hL).size; have C_2 := Lib.hid (C_1.out.under hL); clear C_1; clear hM1 hs1; clear hL) | ((with_reducible show wpList _ _ _ _ _ w2); refine load_ch (w := w2) (by rfl) _ rfl N 27 z m (by rfl) C_2.out HM.out ?_) | (go_at_call 12; (with_reducible show Calls _ _ _ w2 _); refine (Right_high z m w2 (by have := R0.out; omega) (by have := R1.out; omega)).mono ?_; rintro e w3 ⟨rfl, hL⟩; have hM3 : Below N w w3 := below_more hM2 hL hs2; have hs3 : N ≤ w3.heap.size := Nat.le_trans hs2 (hL).size; have C_3 := Lib.hid (C_2.out.under hL); clear C_2; clear hM2 hs2; clear hL) | (go_at_call 6; (with_reducible show Calls _ _ _ w3 _); refine (awake23 w3).mono ?_; rintro e w4 ⟨rfl, hL⟩; have hM4 : Below N w w4 := below_more hM3 hL hs3; have hs4 : N ≤ w4.heap.size := Nat.le_trans hs3 (hL).size; have C_4 := Lib.hid (C_3.out.under hL); clear C_3; clear hM3 hs3; clear hL))
  go_ret
  exact ⟨rfl, by first | exact hM4 | (rw [HN.out]; exact hM4)⟩
set_option maxHeartbeats 12800000 in
set_option maxRecDepth 100000 in
theorem AK_yes (vk ve : Value) (key : List UInt8) (n : Nat) (m l : List UInt8) (s : ByteArray) (m2 : List UInt8) (w : World) (hk : SlB w vk key) (hm : m.length = 16) (he : SlB w ve l) (b0 : key.length ≤ 100) (b1 : s.size ≤ 200) (b2 : l.length ≤ 200) (nn : n ≤ 4294967295) (hm2 : m2.length = 16)
    (hx : ∀ w', Below w.heap.size w w' → Calls Try.prog 10 #[vk, .agg (ch (n : Int) m), .string s] w' fun e w'' => e = .returned (.tuple #[.agg (ch ((n + 1 : Nat) : Int) m2), .nilIface]) ∧ Below w'.heap.size w' w'')
    (ha : ∀ v w', Below w.heap.size w w' → SlB w' v l → Calls Try.prog 7 #[vk, .agg (ch (n : Int) m), v] w' fun e w'' => ∃ u, e = .returned u ∧ Below w'.heap.size w' w'') : Calls Try.prog 4 #[vk, .agg (ch n m), .string s, ve] w fun e w' => e = .returned (.bool true) ∧ Below w.heap.size w w' := by
  obtain ⟨N, hN⟩ : ∃ N, w.heap.size = N := ⟨_, rfl⟩
  have HN := Lib.hid hN
  have HM := Lib.hid hm
  obtain ⟨LK, hL⟩ : ∃ L, key.length = L := ⟨_, rfl⟩
  obtain ⟨Ak, ck, rfl, hck⟩ := hk.formc hL
  obtain ⟨LR, hLR⟩ : ∃ L, l.length = L := ⟨_, rfl⟩
  obtain ⟨Ar, cr, rfl, hcr⟩ := he.formc hLR
  have HX := Lib.hid (show ∀ w', Below N w w' → _ from fun w' h => hx w' (by rw [hN]; exact h))
  have HA := Lib.hid (show ∀ v w', Below N w w' → _ from fun v w' h => ha v w' (by rw [hN]; exact h))
  have HM2 := Lib.hid hm2
  have HNN := Lib.hid (show n ≤ 4294967296 by omega)
  have WNN := Lib.hid (show IntKind.i64.wrap ((n : Int) + 1) = ((n + 1 : Nat) : Int) from (IntWalk.i64_in _ (by omega)).trans (by omega))
  have KL := Lib.hid b0
  have RL := Lib.hid b2
  have R0 := Lib.hid (show 0 ≤ (n : Int) by omega)
  have R1 := Lib.hid (show (n : Int) ≤ 4294967295 by omega)
  have i0 : decide ((100 : Int) < (LK : Int)) = false := by simp; omega
  have i1 : decide ((200 : Int) < (s.size : Int)) = false := by simp; omega
  have i2 : decide ((200 : Int) < (LR : Int)) = false := by simp; omega
  clear hx ha b0 b1 b2 nn hm hL hLR hm2
  have hM0 : Below N w w := Below.refl _ _
  have hs0 : N ≤ w.heap.size := by omega
  have K_0 := Lib.hid (hk)
  have R_0 := Lib.hid (he)
  clear hk he
  go_enter Try.func4, Try.ntmps4
  go_wp2_with (first | ((with_reducible show wpList _ _ _ _ _ w); refine box_ch (w := w) rfl 27 _ rfl (n : Int) m (by rfl) ?_; intro u1 hA0 hG0 hz0; have hL : Below w.heap.size w u1 := below_none (Below.refl _ _) (Nat.le_refl _) hG0; rw [hN] at hA0 ⊢; clear hG0 hz0; have hM1 : Below N w u1 := below_more hM0 hL hs0; have hs1 : N ≤ u1.heap.size := Nat.le_trans hs0 (hL).size; have K_1 := Lib.hid (K_0.out.below hL); clear K_0; have R_1 := Lib.hid (R_0.out.below hL); clear R_0; clear hM0 hs0; have C_1 := Lib.hid (hA0); clear hL hA0) | (go_at_call 6; (with_reducible show Calls _ _ _ u1 _); refine (awake23 u1).mono ?_; rintro e w2 ⟨rfl, hL⟩; have hM2 : Below N w w2 := below_more hM1 hL hs1; have hs2 : N ≤ w2.heap.size := Nat.le_trans hs1 (hL).size; have K_2 := Lib.hid (K_1.out.below hL); clear K_1; have R_2 := Lib.hid (R_1.out.below hL); clear R_1; have C_2 := Lib.hid (C_1.out.under hL); clear C_1; clear hM1 hs1; clear hL) | ((with_reducible show wpList _ _ _ _ _ w2); refine load_ch (w := w2) (by rfl) _ rfl N 27 (n : Int) m (by rfl) C_2.out HM.out ?_) | (go_at_call 12; (with_reducible show Calls _ _ _ w2 _); refine (Right_yes n m w2 (by have := R0.out; omega) (by have := R1.out; omega)).mono ?_; rintro e w3 ⟨rfl, hL⟩; have hM3 : Below N w w3 := below_more hM2 hL hs2; have hs3 : N ≤ w3.heap.size := Nat.le_trans hs2 (hL).size; have K_3 := Lib.hid (K_2.out.below hL); clear K_2; have R_3 := Lib.hid (R_2.out.below hL); clear R_2; have C_3 := Lib.hid (C_2.out.under hL); clear C_2; clear hM2 hs2; clear hL) | (at_builtin; (with_reducible show wpList _ _ _ _ _ (World.alloc w3 _)); (refine append_b hu_sl hu_u8 rfl _ _ rfl w3.heap.size _ [] (by rfl) (own_lit0 w3 _ (Nat.le_refl _)) _ key (by rfl) (K_3.out.alloc _) ((by have := KL.out; simp; omega)) (by simp) ?_); intro vKA w4 hOKA hGKA; have hL : Below w3.heap.size w3 w4 := below_new ((Below.refl _ _).alloc (Nat.le_refl _) _) (by simp) hGKA (Nat.le_refl _); have hO2 : Own w4 w3.heap.size vKA key := hOKA; clear hGKA hOKA; have hM4 : Below N w w4 := below_more hM3 hL hs3; have hs4 : N ≤ w4.heap.size := Nat.le_trans hs3 (hL).size; have K_4 := Lib.hid (K_3.out.below hL); clear K_3; have R_4 := Lib.hid (R_3.out.below hL); clear R_3; have C_4 := Lib.hid (C_3.out.under hL); clear C_3; clear hM3 hs3; have KA_4 := Lib.hid (hO2); clear hL hO2) | (at_builtin; (with_reducible show wpList _ _ _ _ _ (World.alloc w4 _)); (refine append_b hu_sl hu_u8 rfl _ _ rfl w4.heap.size _ [] (by rfl) (own_lit0 w4 _ (Nat.le_refl _)) _ l (by rfl) (R_4.out.alloc _) ((by have := RL.out; simp; omega)) (by simp) ?_); intro vRA w5 hORA hGRA; have hL : Below w4.heap.size w4 w5 := below_new ((Below.refl _ _).alloc (Nat.le_refl _) _) (by simp) hGRA (Nat.le_refl _); have hO2 : Own w5 w4.heap.size vRA l := hORA; clear hGRA hORA; have hM5 : Below N w w5 := below_more hM4 hL hs4; have hs5 : N ≤ w5.heap.size := Nat.le_trans hs4 (hL).size; have K_5 := Lib.hid (K_4.out.below hL); clear K_4; have R_5 := Lib.hid (R_4.out.below hL); clear R_4; have C_5 := Lib.hid (C_4.out.under hL); clear C_4; have KA_5 := Lib.hid (KA_4.out.under hL); clear KA_4; clear hM4 hs4; have RA_5 := Lib.hid (hO2); clear hL hO2) | ((with_reducible show wpList _ _ _ _ _ w5); refine load_ch (w := w5) (by rfl) _ rfl N 27 (n : Int) m (by rfl) C_5.out HM.out ?_) | (go_at_call 10; (with_reducible show Calls _ _ _ w5 _); refine (HX.out w5 hM5).mono ?_; rintro e w6c ⟨rfl, hLc⟩) | ((with_reducible show wpList _ _ _ _ _ w6c); refine alloc_row (w := w6c) rfl 27 rfl (.agg (ch 0 (List.replicate 16 0))) 17 (fun _ => by kernel_rfl) (by kernel_rfl) ?_; intro w6a hRa _ hGa hza) | ((with_reducible show wpList _ _ _ _ _ w6a); refine store_ch (w := w6a) rfl 27 _ _ rfl w6c.heap.size 27 ((n + 1 : Nat) : Int) m2 (by rfl) (by rfl) hRa HM2.out (by kernel_rfl) ?_; intro w6 hBb hGb hzb; have hL9 : Below w6c.heap.size w6c w6 := below_new (below_none (Below.refl _ _) (Nat.le_refl _) hGa) hGa.size hGb (Nat.le_refl _); have hL : Below w5.heap.size w5 w6 := below_more hLc hL9 hLc.size; obtain ⟨Gd, eGx⟩ : ∃ g, w6c.heap.size = g := ⟨_, rfl⟩; have hgB : ChB w6 Gd 27 ((n + 1 : Nat) : Int) m2 := (by rw [← eGx]; exact hBb); have HLGd := Lib.hid (show N ≤ Gd from (by rw [← eGx]; exact Nat.le_trans hs5 hLc.size)); rw [eGx]; clear hRa hGa hza hBb hGb hzb hLc eGx hL9; have hM6 : Below N w w6 := below_more hM5 hL hs5; have hs6 : N ≤ w6.heap.size := Nat.le_trans hs5 (hL).size; have K_6 := Lib.hid (K_5.out.below hL); clear K_5; have R_6 := Lib.hid (R_5.out.below hL); clear R_5; have C_6 := Lib.hid (C_5.out.under hL); clear C_5; have KA_6 := Lib.hid (KA_5.out.under hL); clear KA_5; have RA_6 := Lib.hid (RA_5.out.under hL); clear RA_5; clear hM5 hs5; have d_6 := Lib.hid (hgB); clear hL hgB) | ((with_reducible show wpList _ _ _ _ _ w6); refine load_ch (w := w6) (by rfl) _ rfl N 27 (n : Int) m (by rfl) C_6.out HM.out ?_) | (go_at_call 7; (with_reducible show Calls _ _ _ w6 _); refine (HA.out _ w6 hM6 RA_6.out.slB).mono ?_; rintro e w7 ⟨va, rfl, hL⟩; have hM7 : Below N w w7 := below_more hM6 hL hs6; have hs7 : N ≤ w7.heap.size := Nat.le_trans hs6 (hL).size; have K_7 := Lib.hid (K_6.out.below hL); clear K_6; have R_7 := Lib.hid (R_6.out.below hL); clear R_6; have C_7 := Lib.hid (C_6.out.under hL); clear C_6; have KA_7 := Lib.hid (KA_6.out.under hL); clear KA_6; have RA_7 := Lib.hid (RA_6.out.under hL); clear RA_6; have d_7 := Lib.hid (d_6.out.under hL); clear d_6; clear hM6 hs6; clear hL) | ((with_reducible show wpList _ _ _ _ _ w7); refine load_ch (w := w7) (by rfl) _ rfl N 27 (n : Int) m (by rfl) C_7.out HM.out ?_) | (go_at_call 8; (with_reducible show Calls _ _ _ w7 _); have SMa := Lib.hid hM7; have SSa := Lib.hid hs7; have SaK := Lib.hid K_7.out; have SaR := Lib.hid R_7.out; have SaC := Lib.hid C_7.out; have SaKA := Lib.hid KA_7.out; have SaRA := Lib.hid RA_7.out; have Sad := Lib.hid d_7.out; have Ma_7 := Lib.hid (Below.refl w7.heap.size w7); refine (Save_any n m w7 HNN.out HM.out).mono ?_; rintro e w8 ⟨vs, rfl, hO, hL⟩; have hM8 : Below N w w8 := below_more hM7 hL hs7; have hs8 : N ≤ w8.heap.size := Nat.le_trans hs7 (hL).size; have K_8 := Lib.hid (K_7.out.below hL); clear K_7; have R_8 := Lib.hid (R_7.out.below hL); clear R_7; have C_8 := Lib.hid (C_7.out.under hL); clear C_7; have KA_8 := Lib.hid (KA_7.out.under hL); clear KA_7; have RA_8 := Lib.hid (RA_7.out.under hL); clear RA_7; have d_8 := Lib.hid (d_7.out.under hL); clear d_7; have Ma_8 := Lib.hid (below_more Ma_7.out hL Ma_7.out.size); clear Ma_7; clear hM7 hs7; have X_8 := Lib.hid (hO); clear hO hL; obtain ⟨gq, cq, rfl, hcq⟩ : ∃ gn cn, vs = .slice (some ⟨gn, 0, none⟩) 21 cn ∧ 21 ≤ cn := own_form X_8.out (by rw [List.length_cons, List.length_append, pnum_len, HM.out]) (by decide)))
  have HOx := Lib.hid X_8.out
  have HMx := Lib.hid Ma_8.out
  go_wp2_with fail
  go_loopw [14] (fun i wr => ∃ (k : Nat) (xs : List UInt8), k ≤ 21 ∧ i = .int .i64 k ∧ Hid (xs.length = 21) ∧ Own wr w7.heap.size (.slice (some ⟨gq, 0, none⟩) 21 cq) xs ∧ Below w7.heap.size w7 wr) (fun i _ => 21 - (intOf i).toNat)
  case atStart => exact ⟨0, (5 :: (pnum n ++ m)), by omega, rfl, Lib.hid (by rw [List.length_cons, List.length_append, pnum_len, HM.out]), HOx.out, HMx.out⟩
  case round =>
    clear HOx HMx
    obtain ⟨k, xs, hk, rfl, hxl, hO, hW⟩ := hrel
    by_cases hlt : k < 21
    · have HLT := Lib.hid hlt
      have cc := hO.cell k (by rw [hxl.out]; exact hlt)
      have fc := hO.free k
      have e1 : Go.bits .xor .u8 (bv (g8 xs k)) 255 = bv (g8 xs k ^^^ 255) := bv_xor _ 0xff
      have HO := Lib.hid hO
      have HW := Lib.hid hW
      clear hO hW
      go_wp2
      have hG3 : wr.grownBy (wr.setCell ⟨gq, k, none⟩ (.int .u8 (bv (g8 xs k ^^^ 255)))) (some gq) := grown_set (grown_refl _ _) _ _
      go_roundw
      case rel =>
        have h1 := HO.out
        rw [← hxl.out] at h1
        have h3 := h1.stored k (g8 xs k ^^^ 255)
        rw [hxl.out] at h3
        exact ⟨k + 1, _, HLT.out, by go_num, Lib.hid (by rw [List.length_set]; exact hxl.out), h3, below_new HW.out HW.out.size hG3 (HO.out.lt gq rfl).1⟩
      case measure => have := HLT.out; simp [intOf]; omega
    have HW := Lib.hid hW
    clear hO hW hxl
    have hM9 : Below N w wr := below_more SMa.out HW.out SSa.out
    have hs9 : N ≤ wr.heap.size := Nat.le_trans SSa.out (HW.out).size
    have K_9 := Lib.hid (SaK.out.below HW.out)
    have R_9 := Lib.hid (SaR.out.below HW.out)
    have C_9 := Lib.hid (SaC.out.under HW.out)
    have KA_9 := Lib.hid (SaKA.out.under HW.out)
    have RA_9 := Lib.hid (SaRA.out.under HW.out)
    have d_9 := Lib.hid (Sad.out.under HW.out)
    clear HW
    have cd := d_9.out.count
    have cc := C_9.out.count
    have ew := WNN.out
    obtain ⟨z, ez⟩ : ∃ z : Int, (n : Int) = z := ⟨_, rfl⟩
    obtain ⟨y, ey⟩ : ∃ z : Int, ((n + 1 : Nat) : Int) = z := ⟨_, rfl⟩
    rw [ey] at cd
    rw [ez] at cc
    rw [ez, ey] at ew
    rw [ez]
    clear R0 R1 ez ey
    go_wp2_with fail
    clear cd cc ew
    obtain ⟨M, eM⟩ : ∃ M, wr.heap.size = M := ⟨_, rfl⟩
    have HSM := Lib.hid (show ∀ wq, Below M wr wq → Below wr.heap.size wr wq from fun wq h => by rw [eM]; exact h)
    have hS : Below M wr wr.drew := ⟨rfl, rfl, rfl, Nat.le_refl _, fun _ _ => rfl⟩
    have HBC := Lib.hid (show ∀ wq, Below M wr wq → ChB wq N 27 (n : Int) m from fun wq h => C_9.out.under (HSM.out wq h))
    have HBK := Lib.hid (show ∀ wq, Below M wr wq → SlB wq _ key from fun wq h => K_9.out.below (HSM.out wq h))
    have HBR := Lib.hid (show ∀ wq, Below M wr wq → SlB wq _ l from fun wq h => R_9.out.below (HSM.out wq h))
    have HBKA := Lib.hid (show ∀ wq, Below M wr wq → SlB wq vKA key from fun wq h => KA_9.out.slB.below (HSM.out wq h))
    have HBRA := Lib.hid (show ∀ wq, Below M wr wq → SlB wq vRA l from fun wq h => RA_9.out.slB.below (HSM.out wq h))
    refine wp_region_held (S := fun wq => Below M wr wq) (by kernel_rfl) ?_
    show wpAnyH _ _ _ _ _ 16 _ _ wr.drew
    refine anyH_tk (i := 0) (some 90) rfl (by kernel_rfl) (by kernel_rfl) (by kernel_rfl) (by kernel_rfl) (fun _ _ _ h => h) (yields_val (by kernel_rfl) ((.slice Ak LK ck)) (fun w => by kernel_rfl)) hS ?_
    refine anyH_tk (i := 1) (some 91) rfl (by kernel_rfl) (by kernel_rfl) (by kernel_rfl) (by kernel_rfl) (fun _ _ _ h => h) (yields_val (by kernel_rfl) (vKA) (fun w => by kernel_rfl)) hS ?_
    refine anyH_one 2 (by kernel_rfl) ?_
    refine opH_enter (some 92) rfl (by kernel_rfl) (by kernel_rfl) 13 #[(.slice Ak LK ck), vKA] (fun v wq => v = .bool true ∧ Below wr.drew.heap.size wr.drew wq) (by kernel_rfl) ((Same_any _ _ key key wr.drew (HBK.out wr.drew hS) (HBKA.out wr.drew hS) (by have := KL.out; omega)).mono fun e wq ⟨q1, q2⟩ => ⟨_, q1, by rw [beq_self_eq_true], q2.below0⟩) ?_
    rintro v9 v1 ⟨rfl, hL⟩
    have hS : Below M wr v1 := below_more hS hL (by have := hS.size; omega)
    refine ⟨hS, ?_⟩
    refine anyH_tk (i := 3) (some 93) rfl (by kernel_rfl) (by kernel_rfl) (by kernel_rfl) (by kernel_rfl) (fun _ _ _ h => h) (yields_val (by kernel_rfl) (.bool true) (fun w => by kernel_rfl)) hS ?_
    refine anyH_tk (i := 4) (some 94) rfl (by kernel_rfl) (by kernel_rfl) (by kernel_rfl) (by kernel_rfl) (fun _ _ _ h => h) (yields_val (by kernel_rfl) (vRA) (fun w => by kernel_rfl)) hS ?_
    refine anyH_tk (i := 5) (some 95) rfl (by kernel_rfl) (by kernel_rfl) (by kernel_rfl) (by kernel_rfl) (fun _ _ _ h => h) (yields_val (by kernel_rfl) ((.slice Ar LR cr)) (fun w => by kernel_rfl)) hS ?_
    refine anyH_one 6 (by kernel_rfl) ?_
    refine opH_enter (some 96) rfl (by kernel_rfl) (by kernel_rfl) 13 #[vRA, (.slice Ar LR cr)] (fun v wq => v = .bool true ∧ Below v1.heap.size v1 wq) (by kernel_rfl) ((Same_any _ _ l l v1 (HBRA.out v1 hS) (HBR.out v1 hS) (by have := RL.out; omega)).mono fun e wq ⟨q1, q2⟩ => ⟨_, q1, by rw [beq_self_eq_true], q2.below0⟩) ?_
    rintro v9 v2 ⟨rfl, hL⟩
    have hS : Below M wr v2 := below_more hS hL (by have := hS.size; omega)
    refine ⟨hS, ?_⟩
    refine anyH_tk (i := 7) (some 97) rfl (by kernel_rfl) (by kernel_rfl) (by kernel_rfl) (by kernel_rfl) (fun _ _ _ h => h) (yields_val (by kernel_rfl) (.bool true) (fun w => by kernel_rfl)) hS ?_
    refine anyH_tk (i := 8) (some 98) rfl (by kernel_rfl) (by kernel_rfl) (by kernel_rfl) (by kernel_rfl) (fun _ _ _ h => h) (yields_val (by kernel_rfl) (.bool true) (fun w => by kernel_rfl)) hS ?_
    refine anyH_tk (i := 9) (some 99) rfl (by kernel_rfl) (by kernel_rfl) (by kernel_rfl) (by kernel_rfl) (fun _ _ _ h => h) (yields_chain (by kernel_rfl) _ rfl N 27 (n : Int) m (by kernel_rfl) (fun wq hq => HBC.out wq hq) HM.out) hS ?_
    refine anyH_tk (i := 11) (some 101) rfl (by kernel_rfl) (by kernel_rfl) (by kernel_rfl) (by kernel_rfl) (fun _ _ _ h => h) (yields_chain (by kernel_rfl) _ rfl N 27 (n : Int) m (by kernel_rfl) (fun wq hq => HBC.out wq hq) HM.out) hS ?_
    refine anyH_one 10 (by kernel_rfl) ?_
    refine opH_enter (some 100) rfl (by kernel_rfl) (by kernel_rfl) 8 #[.agg (ch (n : Int) m)] (fun v wq => SlB wq v (5 :: (pnum n ++ m)) ∧ Below v2.heap.size v2 wq) (by kernel_rfl) ((Save_any n m v2 HNN.out HM.out).mono fun e wq ⟨v, q1, q2, q3⟩ => ⟨v, q1, q2.slB, q3⟩) ?_
    rintro va v3 ⟨hA, hL⟩
    have hS : Below M wr v3 := below_more hS hL (by have := hS.size; omega)
    refine ⟨hS, ?_⟩
    have HAA := Lib.hid (hA)
    clear hA
    refine anyH_one 12 (by kernel_rfl) ?_
    refine opH_enter (some 102) rfl (by kernel_rfl) (by kernel_rfl) 14 #[.agg (ch (n : Int) m)] (fun v wq => SlB wq v (5 :: (pnum n ++ m)) ∧ Below v3.heap.size v3 wq) (by kernel_rfl) ((rSave_any n m v3 HNN.out HM.out).mono fun e wq ⟨v, q1, q2, q3⟩ => ⟨v, q1, q2.slB, q3⟩) ?_
    rintro vb v4 ⟨hB, hL⟩
    have hS : Below M wr v4 := below_more hS hL (by have := hS.size; omega)
    refine ⟨hS, ?_⟩
    refine anyH_one 13 (by kernel_rfl) ?_
    refine opH_enter (some 103) rfl (by kernel_rfl) (by kernel_rfl) 13 #[va, vb] (fun v wq => v = .bool true ∧ Below v4.heap.size v4 wq) (by kernel_rfl) ((Same_any _ _ _ _ v4 (HAA.out.below hL) hB (by rw [List.length_cons, List.length_append, pnum_len, HM.out]; decide)).mono fun e wq ⟨q1, q2⟩ => ⟨_, q1, by rw [beq_self_eq_true], q2.below0⟩) ?_
    rintro v9 v5 ⟨rfl, hL⟩
    have hS : Below M wr v5 := below_more hS hL (by have := hS.size; omega)
    refine ⟨hS, ?_⟩
    refine anyH_tk (i := 14) (some 104) rfl (by kernel_rfl) (by kernel_rfl) (by kernel_rfl) (by kernel_rfl) (fun _ _ _ h => h) (yields_val (by kernel_rfl) (.bool true) (fun w => by kernel_rfl)) hS ?_
    refine anyH_tk (i := 15) (some 8) rfl (by kernel_rfl) (by kernel_rfl) (by kernel_rfl) (by kernel_rfl) (fun _ _ _ h => h) (yields_val (by kernel_rfl) (.bool true) (fun w => by kernel_rfl)) hS ?_
    refine wpAnyH_done (by kernel_rfl) ?_ _
    simp only [Act.put, List.getElem_toArray, List.getElem_cons_succ, List.getElem_cons_zero, List.setIfInBounds_toArray, List.set_cons_succ, List.set_cons_zero]
    go_wp2
    go_ret
    exact ⟨rfl, by first | exact below_more hM9 hS (by omega) | (rw [HN.out]; exact below_more hM9 hS (by omega))⟩
set_option maxHeartbeats 12800000 in
set_option maxRecDepth 100000 in
theorem AK_no (vk ve : Value) (key : List UInt8) (n : Nat) (m l : List UInt8) (s : ByteArray) (k : Int) (w : World) (hk : SlB w vk key) (hm : m.length = 16) (he : SlB w ve l) (b0 : key.length ≤ 100) (b1 : s.size ≤ 200) (b2 : l.length ≤ 200) (nn : n ≤ 4294967295)
    (hx : ∀ w', Below w.heap.size w w' → Calls Try.prog 10 #[vk, .agg (ch (n : Int) m), .string s] w' fun e w'' => e = .returned (.tuple #[.agg (ch (n : Int) m), .iface 49 (.int .i64 k)]) ∧ Below w'.heap.size w' w'')
    (ha : ∀ v w', Below w.heap.size w w' → SlB w' v l → Calls Try.prog 7 #[vk, .agg (ch (n : Int) m), v] w' fun e w'' => ∃ u, e = .returned u ∧ Below w'.heap.size w' w'') : Calls Try.prog 4 #[vk, .agg (ch n m), .string s, ve] w fun e w' => e = .returned (.bool true) ∧ Below w.heap.size w w' := by
  obtain ⟨N, hN⟩ : ∃ N, w.heap.size = N := ⟨_, rfl⟩
  have HN := Lib.hid hN
  have HM := Lib.hid hm
  obtain ⟨LK, hL⟩ : ∃ L, key.length = L := ⟨_, rfl⟩
  obtain ⟨Ak, ck, rfl, hck⟩ := hk.formc hL
  obtain ⟨LR, hLR⟩ : ∃ L, l.length = L := ⟨_, rfl⟩
  obtain ⟨Ar, cr, rfl, hcr⟩ := he.formc hLR
  have HX := Lib.hid (show ∀ w', Below N w w' → _ from fun w' h => hx w' (by rw [hN]; exact h))
  have HA := Lib.hid (show ∀ v w', Below N w w' → _ from fun v w' h => ha v w' (by rw [hN]; exact h))
  have HNN := Lib.hid (show n ≤ 4294967296 by omega)
  have WNN := Lib.hid (show IntKind.i64.wrap ((n : Int) + 1) = ((n + 1 : Nat) : Int) from (IntWalk.i64_in _ (by omega)).trans (by omega))
  have KL := Lib.hid b0
  have RL := Lib.hid b2
  have R0 := Lib.hid (show 0 ≤ (n : Int) by omega)
  have R1 := Lib.hid (show (n : Int) ≤ 4294967295 by omega)
  have i0 : decide ((100 : Int) < (LK : Int)) = false := by simp; omega
  have i1 : decide ((200 : Int) < (s.size : Int)) = false := by simp; omega
  have i2 : decide ((200 : Int) < (LR : Int)) = false := by simp; omega
  clear hx ha b0 b1 b2 nn hm hL hLR 
  have hM0 : Below N w w := Below.refl _ _
  have hs0 : N ≤ w.heap.size := by omega
  have K_0 := Lib.hid (hk)
  have R_0 := Lib.hid (he)
  clear hk he
  go_enter Try.func4, Try.ntmps4
  go_wp2_with (first | ((with_reducible show wpList _ _ _ _ _ w); refine box_ch (w := w) rfl 27 _ rfl (n : Int) m (by rfl) ?_; intro u1 hA0 hG0 hz0; have hL : Below w.heap.size w u1 := below_none (Below.refl _ _) (Nat.le_refl _) hG0; rw [hN] at hA0 ⊢; clear hG0 hz0; have hM1 : Below N w u1 := below_more hM0 hL hs0; have hs1 : N ≤ u1.heap.size := Nat.le_trans hs0 (hL).size; have K_1 := Lib.hid (K_0.out.below hL); clear K_0; have R_1 := Lib.hid (R_0.out.below hL); clear R_0; clear hM0 hs0; have C_1 := Lib.hid (hA0); clear hL hA0) | (go_at_call 6; (with_reducible show Calls _ _ _ u1 _); refine (awake23 u1).mono ?_; rintro e w2 ⟨rfl, hL⟩; have hM2 : Below N w w2 := below_more hM1 hL hs1; have hs2 : N ≤ w2.heap.size := Nat.le_trans hs1 (hL).size; have K_2 := Lib.hid (K_1.out.below hL); clear K_1; have R_2 := Lib.hid (R_1.out.below hL); clear R_1; have C_2 := Lib.hid (C_1.out.under hL); clear C_1; clear hM1 hs1; clear hL) | ((with_reducible show wpList _ _ _ _ _ w2); refine load_ch (w := w2) (by rfl) _ rfl N 27 (n : Int) m (by rfl) C_2.out HM.out ?_) | (go_at_call 12; (with_reducible show Calls _ _ _ w2 _); refine (Right_yes n m w2 (by have := R0.out; omega) (by have := R1.out; omega)).mono ?_; rintro e w3 ⟨rfl, hL⟩; have hM3 : Below N w w3 := below_more hM2 hL hs2; have hs3 : N ≤ w3.heap.size := Nat.le_trans hs2 (hL).size; have K_3 := Lib.hid (K_2.out.below hL); clear K_2; have R_3 := Lib.hid (R_2.out.below hL); clear R_2; have C_3 := Lib.hid (C_2.out.under hL); clear C_2; clear hM2 hs2; clear hL) | (at_builtin; (with_reducible show wpList _ _ _ _ _ (World.alloc w3 _)); (refine append_b hu_sl hu_u8 rfl _ _ rfl w3.heap.size _ [] (by rfl) (own_lit0 w3 _ (Nat.le_refl _)) _ key (by rfl) (K_3.out.alloc _) ((by have := KL.out; simp; omega)) (by simp) ?_); intro vKA w4 hOKA hGKA; have hL : Below w3.heap.size w3 w4 := below_new ((Below.refl _ _).alloc (Nat.le_refl _) _) (by simp) hGKA (Nat.le_refl _); have hO2 : Own w4 w3.heap.size vKA key := hOKA; clear hGKA hOKA; have hM4 : Below N w w4 := below_more hM3 hL hs3; have hs4 : N ≤ w4.heap.size := Nat.le_trans hs3 (hL).size; have K_4 := Lib.hid (K_3.out.below hL); clear K_3; have R_4 := Lib.hid (R_3.out.below hL); clear R_3; have C_4 := Lib.hid (C_3.out.under hL); clear C_3; clear hM3 hs3; have KA_4 := Lib.hid (hO2); clear hL hO2) | (at_builtin; (with_reducible show wpList _ _ _ _ _ (World.alloc w4 _)); (refine append_b hu_sl hu_u8 rfl _ _ rfl w4.heap.size _ [] (by rfl) (own_lit0 w4 _ (Nat.le_refl _)) _ l (by rfl) (R_4.out.alloc _) ((by have := RL.out; simp; omega)) (by simp) ?_); intro vRA w5 hORA hGRA; have hL : Below w4.heap.size w4 w5 := below_new ((Below.refl _ _).alloc (Nat.le_refl _) _) (by simp) hGRA (Nat.le_refl _); have hO2 : Own w5 w4.heap.size vRA l := hORA; clear hGRA hORA; have hM5 : Below N w w5 := below_more hM4 hL hs4; have hs5 : N ≤ w5.heap.size := Nat.le_trans hs4 (hL).size; have K_5 := Lib.hid (K_4.out.below hL); clear K_4; have R_5 := Lib.hid (R_4.out.below hL); clear R_4; have C_5 := Lib.hid (C_4.out.under hL); clear C_4; have KA_5 := Lib.hid (KA_4.out.under hL); clear KA_4; clear hM4 hs4; have RA_5 := Lib.hid (hO2); clear hL hO2) | ((with_reducible show wpList _ _ _ _ _ w5); refine load_ch (w := w5) (by rfl) _ rfl N 27 (n : Int) m (by rfl) C_5.out HM.out ?_) | (go_at_call 10; (with_reducible show Calls _ _ _ w5 _); refine (HX.out w5 hM5).mono ?_; rintro e w6c ⟨rfl, hLc⟩) | ((with_reducible show wpList _ _ _ _ _ w6c); refine alloc_row (w := w6c) rfl 27 rfl (.agg (ch 0 (List.replicate 16 0))) 17 (fun _ => by kernel_rfl) (by kernel_rfl) ?_; intro w6a hRa _ hGa hza) | ((with_reducible show wpList _ _ _ _ _ w6a); refine store_ch (w := w6a) rfl 27 _ _ rfl w6c.heap.size 27 (n : Int) m (by rfl) (by rfl) hRa HM.out (by kernel_rfl) ?_; intro w6 hBb hGb hzb; have hL9 : Below w6c.heap.size w6c w6 := below_new (below_none (Below.refl _ _) (Nat.le_refl _) hGa) hGa.size hGb (Nat.le_refl _); have hL : Below w5.heap.size w5 w6 := below_more hLc hL9 hLc.size; obtain ⟨Gd, eGx⟩ : ∃ g, w6c.heap.size = g := ⟨_, rfl⟩; have hgB : ChB w6 Gd 27 (n : Int) m := (by rw [← eGx]; exact hBb); have HLGd := Lib.hid (show N ≤ Gd from (by rw [← eGx]; exact Nat.le_trans hs5 hLc.size)); rw [eGx]; clear hRa hGa hza hBb hGb hzb hLc eGx hL9; have hM6 : Below N w w6 := below_more hM5 hL hs5; have hs6 : N ≤ w6.heap.size := Nat.le_trans hs5 (hL).size; have K_6 := Lib.hid (K_5.out.below hL); clear K_5; have R_6 := Lib.hid (R_5.out.below hL); clear R_5; have C_6 := Lib.hid (C_5.out.under hL); clear C_5; have KA_6 := Lib.hid (KA_5.out.under hL); clear KA_5; have RA_6 := Lib.hid (RA_5.out.under hL); clear RA_5; clear hM5 hs5; have d_6 := Lib.hid (hgB); clear hL hgB) | ((with_reducible show wpList _ _ _ _ _ w6); refine load_ch (w := w6) (by rfl) _ rfl N 27 (n : Int) m (by rfl) C_6.out HM.out ?_) | (go_at_call 7; (with_reducible show Calls _ _ _ w6 _); refine (HA.out _ w6 hM6 RA_6.out.slB).mono ?_; rintro e w7 ⟨va, rfl, hL⟩; have hM7 : Below N w w7 := below_more hM6 hL hs6; have hs7 : N ≤ w7.heap.size := Nat.le_trans hs6 (hL).size; have K_7 := Lib.hid (K_6.out.below hL); clear K_6; have R_7 := Lib.hid (R_6.out.below hL); clear R_6; have C_7 := Lib.hid (C_6.out.under hL); clear C_6; have KA_7 := Lib.hid (KA_6.out.under hL); clear KA_6; have RA_7 := Lib.hid (RA_6.out.under hL); clear RA_6; have d_7 := Lib.hid (d_6.out.under hL); clear d_6; clear hM6 hs6; clear hL) | ((with_reducible show wpList _ _ _ _ _ w7); refine load_ch (w := w7) (by rfl) _ rfl N 27 (n : Int) m (by rfl) C_7.out HM.out ?_) | (go_at_call 8; (with_reducible show Calls _ _ _ w7 _); have SMa := Lib.hid hM7; have SSa := Lib.hid hs7; have SaK := Lib.hid K_7.out; have SaR := Lib.hid R_7.out; have SaC := Lib.hid C_7.out; have SaKA := Lib.hid KA_7.out; have SaRA := Lib.hid RA_7.out; have Sad := Lib.hid d_7.out; have Ma_7 := Lib.hid (Below.refl w7.heap.size w7); refine (Save_any n m w7 HNN.out HM.out).mono ?_; rintro e w8 ⟨vs, rfl, hO, hL⟩; have hM8 : Below N w w8 := below_more hM7 hL hs7; have hs8 : N ≤ w8.heap.size := Nat.le_trans hs7 (hL).size; have K_8 := Lib.hid (K_7.out.below hL); clear K_7; have R_8 := Lib.hid (R_7.out.below hL); clear R_7; have C_8 := Lib.hid (C_7.out.under hL); clear C_7; have KA_8 := Lib.hid (KA_7.out.under hL); clear KA_7; have RA_8 := Lib.hid (RA_7.out.under hL); clear RA_7; have d_8 := Lib.hid (d_7.out.under hL); clear d_7; have Ma_8 := Lib.hid (below_more Ma_7.out hL Ma_7.out.size); clear Ma_7; clear hM7 hs7; have X_8 := Lib.hid (hO); clear hO hL; obtain ⟨gq, cq, rfl, hcq⟩ : ∃ gn cn, vs = .slice (some ⟨gn, 0, none⟩) 21 cn ∧ 21 ≤ cn := own_form X_8.out (by rw [List.length_cons, List.length_append, pnum_len, HM.out]) (by decide)))
  have HOx := Lib.hid X_8.out
  have HMx := Lib.hid Ma_8.out
  go_wp2_with fail
  go_loopw [14] (fun i wr => ∃ (k : Nat) (xs : List UInt8), k ≤ 21 ∧ i = .int .i64 k ∧ Hid (xs.length = 21) ∧ Own wr w7.heap.size (.slice (some ⟨gq, 0, none⟩) 21 cq) xs ∧ Below w7.heap.size w7 wr) (fun i _ => 21 - (intOf i).toNat)
  case atStart => exact ⟨0, (5 :: (pnum n ++ m)), by omega, rfl, Lib.hid (by rw [List.length_cons, List.length_append, pnum_len, HM.out]), HOx.out, HMx.out⟩
  case round =>
    clear HOx HMx
    obtain ⟨k, xs, hk, rfl, hxl, hO, hW⟩ := hrel
    by_cases hlt : k < 21
    · have HLT := Lib.hid hlt
      have cc := hO.cell k (by rw [hxl.out]; exact hlt)
      have fc := hO.free k
      have e1 : Go.bits .xor .u8 (bv (g8 xs k)) 255 = bv (g8 xs k ^^^ 255) := bv_xor _ 0xff
      have HO := Lib.hid hO
      have HW := Lib.hid hW
      clear hO hW
      go_wp2
      have hG3 : wr.grownBy (wr.setCell ⟨gq, k, none⟩ (.int .u8 (bv (g8 xs k ^^^ 255)))) (some gq) := grown_set (grown_refl _ _) _ _
      go_roundw
      case rel =>
        have h1 := HO.out
        rw [← hxl.out] at h1
        have h3 := h1.stored k (g8 xs k ^^^ 255)
        rw [hxl.out] at h3
        exact ⟨k + 1, _, HLT.out, by go_num, Lib.hid (by rw [List.length_set]; exact hxl.out), h3, below_new HW.out HW.out.size hG3 (HO.out.lt gq rfl).1⟩
      case measure => have := HLT.out; simp [intOf]; omega
    have HW := Lib.hid hW
    clear hO hW hxl
    have hM9 : Below N w wr := below_more SMa.out HW.out SSa.out
    have hs9 : N ≤ wr.heap.size := Nat.le_trans SSa.out (HW.out).size
    have K_9 := Lib.hid (SaK.out.below HW.out)
    have R_9 := Lib.hid (SaR.out.below HW.out)
    have C_9 := Lib.hid (SaC.out.under HW.out)
    have KA_9 := Lib.hid (SaKA.out.under HW.out)
    have RA_9 := Lib.hid (SaRA.out.under HW.out)
    have d_9 := Lib.hid (Sad.out.under HW.out)
    clear HW
    go_wp2_with (first | ((with_reducible show wpList _ _ _ _ _ wr); refine load_ch (w := wr) (by rfl) _ rfl Gd 27 (n : Int) m (by rfl) d_9.out HM.out ?_) | ((with_reducible show wpList _ _ _ _ _ wr); refine load_ch (w := wr) (by rfl) _ rfl N 27 (n : Int) m (by rfl) C_9.out HM.out ?_) | ((with_reducible show wpList _ _ _ _ _ wr); refine op_neqg (w := wr) (by rfl) cht _ _ _ rfl (ch (n : Int) m) (ch (n : Int) m) (by rfl) (by rfl) (by kernel_rfl) false (fun w => (run_neq_ch w _ _ _ _ HM.out HM.out).trans (by simp)) ?_))
    obtain ⟨M, eM⟩ : ∃ M, wr.heap.size = M := ⟨_, rfl⟩
    have HSM := Lib.hid (show ∀ wq, Below M wr wq → Below wr.heap.size wr wq from fun wq h => by rw [eM]; exact h)
    have hS : Below M wr wr.drew := ⟨rfl, rfl, rfl, Nat.le_refl _, fun _ _ => rfl⟩
    have HBC := Lib.hid (show ∀ wq, Below M wr wq → ChB wq N 27 (n : Int) m from fun wq h => C_9.out.under (HSM.out wq h))
    have HBK := Lib.hid (show ∀ wq, Below M wr wq → SlB wq _ key from fun wq h => K_9.out.below (HSM.out wq h))
    have HBR := Lib.hid (show ∀ wq, Below M wr wq → SlB wq _ l from fun wq h => R_9.out.below (HSM.out wq h))
    have HBKA := Lib.hid (show ∀ wq, Below M wr wq → SlB wq vKA key from fun wq h => KA_9.out.slB.below (HSM.out wq h))
    have HBRA := Lib.hid (show ∀ wq, Below M wr wq → SlB wq vRA l from fun wq h => RA_9.out.slB.below (HSM.out wq h))
    refine wp_region_held (S := fun wq => Below M wr wq) (by kernel_rfl) ?_
    show wpAnyH _ _ _ _ _ 16 _ _ wr.drew
    refine anyH_tk (i := 0) (some 90) rfl (by kernel_rfl) (by kernel_rfl) (by kernel_rfl) (by kernel_rfl) (fun _ _ _ h => h) (yields_val (by kernel_rfl) ((.slice Ak LK ck)) (fun w => by kernel_rfl)) hS ?_
    refine anyH_tk (i := 1) (some 91) rfl (by kernel_rfl) (by kernel_rfl) (by kernel_rfl) (by kernel_rfl) (fun _ _ _ h => h) (yields_val (by kernel_rfl) (vKA) (fun w => by kernel_rfl)) hS ?_
    refine anyH_one 2 (by kernel_rfl) ?_
    refine opH_enter (some 92) rfl (by kernel_rfl) (by kernel_rfl) 13 #[(.slice Ak LK ck), vKA] (fun v wq => v = .bool true ∧ Below wr.drew.heap.size wr.drew wq) (by kernel_rfl) ((Same_any _ _ key key wr.drew (HBK.out wr.drew hS) (HBKA.out wr.drew hS) (by have := KL.out; omega)).mono fun e wq ⟨q1, q2⟩ => ⟨_, q1, by rw [beq_self_eq_true], q2.below0⟩) ?_
    rintro v9 v1 ⟨rfl, hL⟩
    have hS : Below M wr v1 := below_more hS hL (by have := hS.size; omega)
    refine ⟨hS, ?_⟩
    refine anyH_tk (i := 3) (some 93) rfl (by kernel_rfl) (by kernel_rfl) (by kernel_rfl) (by kernel_rfl) (fun _ _ _ h => h) (yields_val (by kernel_rfl) (.bool true) (fun w => by kernel_rfl)) hS ?_
    refine anyH_tk (i := 4) (some 94) rfl (by kernel_rfl) (by kernel_rfl) (by kernel_rfl) (by kernel_rfl) (fun _ _ _ h => h) (yields_val (by kernel_rfl) (vRA) (fun w => by kernel_rfl)) hS ?_
    refine anyH_tk (i := 5) (some 95) rfl (by kernel_rfl) (by kernel_rfl) (by kernel_rfl) (by kernel_rfl) (fun _ _ _ h => h) (yields_val (by kernel_rfl) ((.slice Ar LR cr)) (fun w => by kernel_rfl)) hS ?_
    refine anyH_one 6 (by kernel_rfl) ?_
    refine opH_enter (some 96) rfl (by kernel_rfl) (by kernel_rfl) 13 #[vRA, (.slice Ar LR cr)] (fun v wq => v = .bool true ∧ Below v1.heap.size v1 wq) (by kernel_rfl) ((Same_any _ _ l l v1 (HBRA.out v1 hS) (HBR.out v1 hS) (by have := RL.out; omega)).mono fun e wq ⟨q1, q2⟩ => ⟨_, q1, by rw [beq_self_eq_true], q2.below0⟩) ?_
    rintro v9 v2 ⟨rfl, hL⟩
    have hS : Below M wr v2 := below_more hS hL (by have := hS.size; omega)
    refine ⟨hS, ?_⟩
    refine anyH_tk (i := 7) (some 97) rfl (by kernel_rfl) (by kernel_rfl) (by kernel_rfl) (by kernel_rfl) (fun _ _ _ h => h) (yields_val (by kernel_rfl) (.bool true) (fun w => by kernel_rfl)) hS ?_
    refine anyH_tk (i := 8) (some 98) rfl (by kernel_rfl) (by kernel_rfl) (by kernel_rfl) (by kernel_rfl) (fun _ _ _ h => h) (yields_val (by kernel_rfl) (.bool true) (fun w => by kernel_rfl)) hS ?_
    refine anyH_tk (i := 9) (some 99) rfl (by kernel_rfl) (by kernel_rfl) (by kernel_rfl) (by kernel_rfl) (fun _ _ _ h => h) (yields_chain (by kernel_rfl) _ rfl N 27 (n : Int) m (by kernel_rfl) (fun wq hq => HBC.out wq hq) HM.out) hS ?_
    refine anyH_tk (i := 11) (some 101) rfl (by kernel_rfl) (by kernel_rfl) (by kernel_rfl) (by kernel_rfl) (fun _ _ _ h => h) (yields_chain (by kernel_rfl) _ rfl N 27 (n : Int) m (by kernel_rfl) (fun wq hq => HBC.out wq hq) HM.out) hS ?_
    refine anyH_one 10 (by kernel_rfl) ?_
    refine opH_enter (some 100) rfl (by kernel_rfl) (by kernel_rfl) 8 #[.agg (ch (n : Int) m)] (fun v wq => SlB wq v (5 :: (pnum n ++ m)) ∧ Below v2.heap.size v2 wq) (by kernel_rfl) ((Save_any n m v2 HNN.out HM.out).mono fun e wq ⟨v, q1, q2, q3⟩ => ⟨v, q1, q2.slB, q3⟩) ?_
    rintro va v3 ⟨hA, hL⟩
    have hS : Below M wr v3 := below_more hS hL (by have := hS.size; omega)
    refine ⟨hS, ?_⟩
    have HAA := Lib.hid (hA)
    clear hA
    refine anyH_one 12 (by kernel_rfl) ?_
    refine opH_enter (some 102) rfl (by kernel_rfl) (by kernel_rfl) 14 #[.agg (ch (n : Int) m)] (fun v wq => SlB wq v (5 :: (pnum n ++ m)) ∧ Below v3.heap.size v3 wq) (by kernel_rfl) ((rSave_any n m v3 HNN.out HM.out).mono fun e wq ⟨v, q1, q2, q3⟩ => ⟨v, q1, q2.slB, q3⟩) ?_
    rintro vb v4 ⟨hB, hL⟩
    have hS : Below M wr v4 := below_more hS hL (by have := hS.size; omega)
    refine ⟨hS, ?_⟩
    refine anyH_one 13 (by kernel_rfl) ?_
    refine opH_enter (some 103) rfl (by kernel_rfl) (by kernel_rfl) 13 #[va, vb] (fun v wq => v = .bool true ∧ Below v4.heap.size v4 wq) (by kernel_rfl) ((Same_any _ _ _ _ v4 (HAA.out.below hL) hB (by rw [List.length_cons, List.length_append, pnum_len, HM.out]; decide)).mono fun e wq ⟨q1, q2⟩ => ⟨_, q1, by rw [beq_self_eq_true], q2.below0⟩) ?_
    rintro v9 v5 ⟨rfl, hL⟩
    have hS : Below M wr v5 := below_more hS hL (by have := hS.size; omega)
    refine ⟨hS, ?_⟩
    refine anyH_tk (i := 14) (some 104) rfl (by kernel_rfl) (by kernel_rfl) (by kernel_rfl) (by kernel_rfl) (fun _ _ _ h => h) (yields_val (by kernel_rfl) (.bool true) (fun w => by kernel_rfl)) hS ?_
    refine anyH_tk (i := 15) (some 8) rfl (by kernel_rfl) (by kernel_rfl) (by kernel_rfl) (by kernel_rfl) (fun _ _ _ h => h) (yields_val (by kernel_rfl) (.bool true) (fun w => by kernel_rfl)) hS ?_
    refine wpAnyH_done (by kernel_rfl) ?_ _
    simp only [Act.put, List.getElem_toArray, List.getElem_cons_succ, List.getElem_cons_zero, List.setIfInBounds_toArray, List.set_cons_succ, List.set_cons_zero]
    go_wp2
    go_ret
    exact ⟨rfl, by first | exact below_more hM9 hS (by omega) | (rw [HN.out]; exact below_more hM9 hS (by omega))⟩
theorem next_any (vk : Value) (key : List UInt8) (n : Nat) (m : List UInt8) (s : ByteArray) (hm : m.length = 16) (hn : n ≤ 4294967295) (hs : s.size ≤ 140737488351232) :
    (∃ m2 : List UInt8, m2.length = 16 ∧ ∀ w', SlB w' vk key → Calls Try.prog 10 #[vk, .agg (ch (n : Int) m), .string s] w' fun e w'' => e = .returned (.tuple #[.agg (ch ((n + 1 : Nat) : Int) m2), .nilIface]) ∧ Below w'.heap.size w' w'') ∨
    (∃ k : Int, ∀ w', SlB w' vk key → Calls Try.prog 10 #[vk, .agg (ch (n : Int) m), .string s] w' fun e w'' => e = .returned (.tuple #[.agg (ch (n : Int) m), .iface 49 (.int .i64 k)]) ∧ Below w'.heap.size w' w'') := by
  by_cases h16 : key.length = 16
  case neg => exact .inr ⟨2, fun w' hk => Next_key vk key n m s w' hk h16 hm⟩
  by_cases h0 : s.size = 0
  · exact .inr ⟨2, fun w' hk => Next_note vk key n m s w' hk h16 hm hs (.inl h0)⟩
  by_cases h1 : 60 < s.size
  · exact .inr ⟨2, fun w' hk => Next_note vk key n m s w' hk h16 hm hs (.inr h1)⟩
  by_cases hf : n = 4294967295
  · exact .inr ⟨10, fun w' hk => Next_full vk key n m s w' hk h16 hm (by omega) (by omega) (by omega)⟩
  exact .inl ⟨_, pcmac_len 1 key _ (.inl rfl), fun w' hk => Next_yes vk key n m s w' hk h16 (by omega) hm (by omega) (by omega)⟩
theorem apply_some (vk v : Value) (key : List UInt8) (n : Nat) (m l : List UInt8) (w : World) (hk : SlB w vk key) (he : SlB w v l) (hl : l.length ≤ 1000) (hm : m.length = 16) (hn : n ≤ 4294967295) :
    Calls Try.prog 7 #[vk, .agg (ch (n : Int) m), v] w fun e w' => ∃ u, e = .returned u ∧ Below w.heap.size w w' := by
  rcases rec_cases l with ⟨c1, c2, c3, c4, m2, rfl, hm2⟩ | ⟨t, rfl, h1, h2⟩ | ⟨h5, h6⟩
  · exact (Apply_save vk v n m m2 c1 c2 c3 c4 w he hm hm2).mono fun e w' ⟨q1, q2⟩ => ⟨_, q1, q2⟩
  · rcases next_any vk key n m (bs t) hm hn (by rw [bs_size]; omega) with ⟨m2, hm2, g⟩ | ⟨k, g⟩
    · exact (Apply_note vk v .nilIface n _ m m2 t w he hm hm2 h1 h2 fun w'' hw' => g w'' (hk.below hw')).mono fun e w' ⟨q1, q2⟩ => ⟨_, q1, q2⟩
    · exact (Apply_note vk v _ n _ m m t w he hm hm h1 h2 fun w'' hw' => g w'' (hk.below hw')).mono fun e w' ⟨q1, q2⟩ => ⟨_, q1, q2⟩
  · exact (Apply_refused vk v n m l w he hl hm h5 h6).mono fun e w' ⟨q1, q2⟩ => ⟨_, q1, q2⟩
theorem AuditKeeps_any (vk : Value) (key : List UInt8) (z : Int) (m : List UInt8) (s : ByteArray) (ve : Value) (l : List UInt8) (w : World) (hk : SlB w vk key) (hm : m.length = 16) (hz : (Lit.int .i64 z).wf = true) (hs : s.size ≤ 9223372036854775807) (he : SlB w ve l) : Calls Try.prog 4 #[vk, .agg (ch z m), .string s, ve] w fun e w' => e = .returned (.bool true) ∧ Below w.heap.size w w' := by
  by_cases b0 : key.length ≤ 100
  case neg => exact AK_f0 vk ve key z m l s w hk hm he b0
  by_cases b1 : s.size ≤ 200
  case neg => exact AK_f1 vk ve key z m l s w hk hm he b0 b1
  by_cases b2 : l.length ≤ 200
  case neg => exact AK_f2 vk ve key z m l s w hk hm he b0 b1 b2
  by_cases r0 : 0 ≤ z
  case neg => exact AK_f3 vk ve key z m l s w hk hm he b0 b1 b2 r0
  by_cases r1 : z ≤ 4294967295
  case neg => exact AK_f4 vk ve key z m l s w hk hm he b0 b1 b2 r0 r1
  obtain ⟨n, rfl⟩ : ∃ n : Nat, z = n := ⟨z.toNat, by omega⟩
  rcases next_any vk key n m s hm (by omega) (by omega) with ⟨m2, hm2, g⟩ | ⟨k, g⟩
  · exact AK_yes vk ve key n m l s m2 w hk hm he b0 b1 b2 (by omega) hm2 (fun w' hw => g w' (hk.below hw)) (fun v w' hw hv => apply_some vk v key n m l w' (hk.below hw) hv (by omega) hm (by omega))
  · exact AK_no vk ve key n m l s k w hk hm he b0 b1 b2 (by omega) (fun w' hw => g w' (hk.below hw)) (fun v w' hw hv => apply_some vk v key n m l w' (hk.below hw) hv (by omega) hm (by omega))
end Go.Proofs.Ytpfmhohldfnhmaa
set_option linter.unusedVariables false
set_option linter.unusedSimpArgs false
namespace Lk
open Go Go.RowKit
/-- a slice of whole numbers as it is read -/
def IsRow (k : IntKind) (w : World) (a : Option Addr) (len cap : Nat) (zs : List Int) : Prop :=
  (a = none ∧ len = 0 ∧ cap = 0 ∧ zs = []) ∨
  ∃ x, a = some x ∧ len ≤ cap ∧ cap ≤ maxLen ∧ zs.length = cap ∧ (∀ i, i < zs.length → w.cell? (x.add i) = some (.int k (zs.getD i 0))) ∧ ∀ n ∈ zs, (Lit.int k n).wf = true
theorem u8_of_wf {n : Int} (h : (Lit.int .u8 n).wf = true) : n = bv (UInt8.ofNat n.toNat) := by
  obtain ⟨a, rfl⟩ := open_u8 h
  unfold bv
  simp
theorem slB_of_row {w : World} {a : Option Addr} {len cap : Nat} {zs : List Int} (h : IsRow .u8 w a len cap zs) : ∃ l : List UInt8, l.length = len ∧ SlB w (.slice a len cap) l := by
  rcases h with ⟨rfl, rfl, rfl, rfl⟩ | ⟨x, rfl, h1, h2, h3, h4, h5⟩
  · exact ⟨[], rfl, none, 0, rfl, fun _ => rfl, Nat.le_refl _, Nat.zero_le _, fun h => by omega⟩
  · have hl : ((zs.take len).map fun z => UInt8.ofNat z.toNat).length = len := by simp; omega
    refine ⟨(zs.take len).map fun z => UInt8.ofNat z.toNat, hl, some x, cap, by rw [hl], fun h => (by cases h), by rw [hl]; exact h1, h2, fun hc => ?_⟩
    have hx : x.spot = none := by
      have := h4 0 (by omega)
      have e : x.add 0 = x := by simp [Addr.add]
      rw [e] at this
      unfold World.cell? at this
      split at this
      · split at this
        · cases this
        · rename_i hs; simpa using hs
      · cases this
    obtain ⟨g, o, s⟩ := x
    cases hx
    refine ⟨g, o, rfl, fun k hk => ?_⟩
    rw [hl] at hk
    have hc := h4 k (by omega)
    have ea : (⟨g, o, none⟩ : Addr).add k = ⟨g, o + k, none⟩ := by unfold Addr.add; split <;> simp_all
    rw [ea] at hc
    rw [hc]
    have hm : zs.getD k 0 ∈ zs := by
      have : k < zs.length := by omega
      simp [this]
    have := u8_of_wf (h5 _ hm)
    have e : g8 ((zs.take len).map fun z => UInt8.ofNat z.toNat) k = UInt8.ofNat (zs.getD k 0).toNat := by
      unfold g8
      have : k < zs.length := by omega
      simp [List.getElem?_take, hk, this]
    rw [e, ← this]
section
variable {P : Program} {H : Type} {enc : TypeId × Value → H}
theorem open_slice_u8 {t e : TypeId} {W : World} {a : Option Addr} {len cap : Nat} {d : DataW H} {ps : List MemPlace} (ht : P.underlying t = some (.slice e)) (he : P.underlying e = some (.int .u8)) (hc : P.cellsOf e = 1)
    (h : DataW.Trod enc P W 0 (fun _ => true) true t (.slice a len cap) d ps) : ∃ l : List UInt8, l.length = len ∧ SlB W (.slice a len cap) l := by
  obtain ⟨zs, hz⟩ : ∃ zs, IsRow .u8 W a len cap zs := by
    obtain ⟨fuel, hf⟩ := h
    rcases Go.ChangeShapes.open_ints ht he hc hf with ⟨hcs, _⟩ | ⟨x, l, c, zs, hcs, _, hl, hm, hz, _, hcell, hwz⟩
    · simp [Value.cells] at hcs
      obtain ⟨rfl, rfl, rfl⟩ := hcs
      exact ⟨[], .inl ⟨rfl, rfl, rfl, rfl⟩⟩
    · simp [Value.cells] at hcs
      obtain ⟨rfl, rfl, rfl⟩ := hcs
      exact ⟨zs, .inr ⟨_, rfl, hl, hm, by simpa using hz, hcell, hwz⟩⟩
  exact slB_of_row hz
/-- an array of bytes -/
theorem open_arr_u8 {t e n : Nat} {W : World} {r : Reach} {base : Nat} {v : Value} (ht : P.underlying t = some (.array n e)) (he : P.underlying e = some (.int .u8)) (hc : P.cellsOf t = n) (hct : P.cellTypes P.depth t = some (List.replicate n e)) (hn : 0 < n)
    (h : Value.okWide P W r base t v) : ∃ l : List UInt8, l.length = n ∧ v = .agg (Bs l) := by
  simp only [Value.okWide, ht] at h
  obtain ⟨cs, rfl, hsz, ts, hts, _, hcell⟩ := h
  rw [hct] at hts
  cases hts
  rw [hc] at hsz
  refine ⟨cs.toList.map fun v => match v with | .int _ z => UInt8.ofNat z.toNat | _ => 0, by simp [hsz], ?_⟩
  congr 1
  apply Array.ext
  · simp [Bs]
  · intro i h1 h2
    obtain ⟨u, hu, hok⟩ := hcell i cs[i] (by simp [h1])
    have hue : u = e := by
      rw [List.getElem?_replicate] at hu
      split at hu
      · cases hu; rfl
      · cases hu
    subst hue
    simp only [Cell.okWide, he] at hok
    simp only [Bs, List.map_map, List.getElem_toArray, List.getElem_map, Function.comp_apply, Array.getElem_toList]
    cases hv : cs[i] with
    | int k z =>
      rw [hv] at hok
      simp only [Cell.ok, he] at hok
      obtain ⟨rfl, hw⟩ := hok
      have hw' : (Lit.int .u8 z).wf = true := by
        unfold Lit.wf
        rw [Bool.and_eq_true]
        exact ⟨decide_eq_true hw.1, decide_eq_true hw.2⟩
      simp only [← u8_of_wf hw']
    | _ => rw [hv] at hok; simp [Cell.ok, he] at hok
end
end Lk
set_option linter.unusedVariables false
set_option linter.unusedSimpArgs false
namespace Lk
open Go Go.RowKit Go.ChangeShapes Go.WideShapes
theorem bl_of (cs : List Value) (h : ∀ v ∈ cs, ∃ z, v = .int .u8 z ∧ (Lit.int .u8 z).wf = true) : ∃ l : List UInt8, l.length = cs.length ∧ cs = Bl l := by
  induction cs with
  | nil => exact ⟨[], rfl, rfl⟩
  | cons v t ih =>
    obtain ⟨l, hl, rfl⟩ := ih fun u hu => h u (List.mem_cons_of_mem _ hu)
    obtain ⟨z, rfl, hz⟩ := h v List.mem_cons_self
    refine ⟨UInt8.ofNat z.toNat :: l, by simpa using hl, ?_⟩
    unfold Bl
    rw [List.map_cons, ← u8_of_wf hz]
theorem wf_of_has {k : IntKind} {z : Int} (h : k.has z) : (Lit.int k z).wf = true := by
  unfold Lit.wf
  rw [Bool.and_eq_true]
  exact ⟨decide_eq_true h.1, decide_eq_true h.2⟩
section
variable {P : Program}
theorem open_row {t : TypeId} {ts : List TypeId} {W : World} {r : Reach} {base : Nat} {v : Value} (ht : (∃ f, P.underlying t = some (.struct f)) ∨ ∃ n e, P.underlying t = some (.array n e)) (hct : P.cellTypes P.depth t = some ts) (hc : P.cellsOf t = ts.length)
    (h : Value.okWide P W r base t v) : ∃ cs : List Value, v = .agg cs.toArray ∧ cs.length = ts.length ∧ ∀ (i : Nat) (u : TypeId) (x : Value), ts[i]? = some u → cs[i]? = some x → Cell.okWide P W r base u x := by
  have h' : ∃ cs, v = .agg cs ∧ cs.size = P.cellsOf t ∧ Row.okWide P W r base t cs := by
    rcases ht with ⟨f, ht⟩ | ⟨n, e, ht⟩ <;> simpa only [Value.okWide, ht] using h
  obtain ⟨cs, rfl, hsz, ts', hts, _, hcell⟩ := h'
  rw [hct] at hts
  cases hts
  refine ⟨cs.toList, rfl, by simpa [hc] using hsz, fun i u x hu hx => ?_⟩
  obtain ⟨u', hu', hok⟩ := hcell i x (by simpa using hx)
  have hi := (List.getElem?_eq_some_iff.1 hu).1
  rw [Nat.mod_eq_of_lt hi, hu] at hu'
  cases hu'
  exact hok
theorem cell_int {t : TypeId} {k : IntKind} {W : World} {r : Reach} {base : Nat} {v : Value} (ht : P.underlying t = some (.int k)) (h : Cell.okWide P W r base t v) : ∃ z, v = .int k z ∧ (Lit.int k z).wf = true := by
  simp only [Cell.okWide, ht] at h
  cases v with
  | int k' z =>
    simp only [Cell.ok, ht] at h
    obtain ⟨rfl, hw⟩ := h
    exact ⟨z, rfl, wf_of_has hw⟩
  | _ => simp [Cell.ok, ht] at h
theorem cell_bool {t : TypeId} {W : World} {r : Reach} {base : Nat} {v : Value} (ht : P.underlying t = some .bool) (h : Cell.okWide P W r base t v) : ∃ b, v = .bool b := by
  simp only [Cell.okWide, ht] at h
  cases v with
  | bool b => exact ⟨b, rfl⟩
  | _ => simp [Cell.ok, ht] at h
theorem u8_run {t : TypeId} {W : World} {r : Reach} {base : Nat} (ht : P.underlying t = some (.int .u8)) {cs : List Value} {ts : List TypeId} (hl : cs.length = ts.length) (h : ∀ (i : Nat) (u : TypeId) (x : Value), ts[i]? = some u → cs[i]? = some x → Cell.okWide P W r base u x) (o n : Nat) (hts : (ts.drop o).take n = List.replicate n t) : ∃ l : List UInt8, l.length = n ∧ (cs.drop o).take n = Bl l := by
  have hn : ((ts.drop o).take n).length = n := by rw [hts, List.length_replicate]
  have hlen : ((cs.drop o).take n).length = n := by
    rw [List.length_take, List.length_drop] at hn ⊢
    omega
  obtain ⟨l, h1, h2⟩ := bl_of ((cs.drop o).take n) fun v hv => by
    obtain ⟨i, hi, rfl⟩ := List.mem_iff_getElem.1 hv
    have hi' : i < n := by omega
    have e1 : cs[o + i]? = some ((cs.drop o).take n)[i] := by
      rw [← List.getElem?_drop, ← List.getElem?_take_of_lt hi', List.getElem?_eq_getElem hi]
    have e2 : ts[o + i]? = some t := by
      rw [← List.getElem?_drop, ← List.getElem?_take_of_lt hi', hts, List.getElem?_replicate, if_pos hi']
    exact cell_int ht (h _ _ _ e2 e1)
  exact ⟨l, by rw [h1, hlen], h2⟩
theorem getq_at {α : Type} (cs : List α) (i : Nat) (h : i < cs.length) : ∃ x, cs[i]? = some x := ⟨_, List.getElem?_eq_getElem h⟩
end
end Lk
set_option linter.unusedVariables false
set_option linter.unusedSimpArgs false
namespace Go.Proofs.Ytpfmhohldfnhmaa
open Go Go.RowKit Lk Go.ChangeShapes Go.WideShapes
theorem cht_cells : Try.prog.cellTypes Try.prog.depth cht = some (3 :: List.replicate 16 5) := by kernel_rfl
set_option maxRecDepth 100000 in
theorem open_chain {W : World} {r : Reach} {base : Nat} {v : Value} (h : Value.okWide Try.prog W r base cht v) : ∃ (z : Int) (m : List UInt8), v = .agg (ch z m) ∧ m.length = 16 ∧ (Lit.int .i64 z).wf = true := by
  obtain ⟨cs, rfl, hl, hc⟩ := open_row (.inl cht_d) cht_cells (by kernel_rfl) h
  have hl' : cs.length = 17 := hl
  obtain ⟨m, hm, em⟩ := u8_run (t := 5) (by kernel_rfl) hl hc 1 16 (by decide)
  obtain ⟨x0, g0⟩ := getq_at cs 0 (by omega)
  obtain ⟨z, rfl, hz⟩ := cell_int (t := 3) (k := .i64) (by kernel_rfl) (hc 0 _ _ (by decide) g0)
  refine ⟨z, m, ?_, hm, hz⟩
  have e1 : (cs.drop 1).take 16 = cs.drop 1 := List.take_of_length_le (by rw [List.length_drop]; omega)
  rw [e1] at em
  have e2 : cs = .int .i64 z :: cs.drop 1 := by
    cases cs with
    | nil => simp at hl'
    | cons x t => simp at g0; rw [g0]; rfl
  rw [e2, em]
  simp [ch, Bs, Bl]
end Go.Proofs.Ytpfmhohldfnhmaa
namespace Go.Proofs.Ytpfmhohldfnhmaa.auditKeeps
open Go.ChangeShapes Go.WideShapes Go.ChangeAt Go.RowKit Lk
open Go.ChangeMaps (open_string shut_string)
set_option linter.unusedVariables false
set_option linter.unusedSimpArgs false
theorem own : ownKnob Try.prog.godebug = none := by kernel_rfl
theorem laidOut : laidOutB Try.prog = true := by kernel_rfl
set_option maxRecDepth 100000 in
theorem lifted (os : Os) (started : os.Started) (H : Type) (enc : TypeId × Value → H) :
    ReturnsInHanded {} Try.checked os 4 .any (Rows.auditKeepsSpec.pre6 enc Try.prog Try.f4 Rows.auditKeepsRow.domain false) (Rows.auditKeepsSpec.post enc Try.prog Try.f4 false true false false) := by
  refine returnsInHanded_of_change_sized (C := Try.checked) own started (by kernel_rfl) Try.func4
    (ChangeSpec.witness6 (enc := enc) (C := Try.checked) false ⟨#[], #[.slice none 0 0, .agg #[.int .i64 0, .int .u8 0, .int .u8 0, .int .u8 0, .int .u8 0, .int .u8 0, .int .u8 0, .int .u8 0, .int .u8 0, .int .u8 0, .int .u8 0, .int .u8 0, .int .u8 0, .int .u8 0, .int .u8 0, .int .u8 0, .int .u8 0], .string ByteArray.empty, .slice none 0 0], []⟩ 8 (by kernel_rfl) (by kernel_rfl) (by kernel_rfl) (by kernel_rfl)) ?_
  intro W base args ds gs before hval0 hW hcnd hsz0 _
  have hsz : (DataW.weightsEach Try.prog (Try.f4.params.toList ++ Rows.auditKeepsSpec.plain.varTypes Try.prog) (ds ++ gs)).all (· ≤ reachBytes) = true := hsz0
  have hval : ∀ (j : Nat) t v, Try.f4.params[j]? = some t → args[j]? = some v → Value.okWide Try.prog W .any base t v := hval0
  have hW' := hW
  obtain ⟨p, q, hA0, hV, rfl, hfz, hnd⟩ := hW
  have hA : DataW.TrodAll enc Try.prog W 0 (fun _ => true) true Try.f4.params.toList args.toList ds p := hA0
  rw [Try.params4] at hA hval hsz
  obtain ⟨v0, vs0, d0, ds0, p0, q0, hargs, rfl, rfl, h0, r0⟩ := trodAll_cons hA
  obtain ⟨v1, vs1, d1, ds1, p1, q1, rfl, rfl, rfl, h1, r1⟩ := trodAll_cons r0
  obtain ⟨v2, vs2, d2, ds2, p2, q2, rfl, rfl, rfl, h2, r2⟩ := trodAll_cons r1
  obtain ⟨v3, vs3, d3, ds3, p3, q3, rfl, rfl, rfl, h3, r3⟩ := trodAll_cons r2
  obtain ⟨rfl, rfl, rfl⟩ := trodAll_nil r3
  obtain rfl : args = #[v0, v1, v2, v3] := by cases args; simp_all
  obtain ⟨rfl, rfl⟩ := trodVars_none hV
  have k0 := h0
  have lt0 : ∀ x ∈ p0, x.block < W.heap.size := by obtain ⟨m, hm⟩ := k0; exact DataW.trod_lt m _ _ _ hm
  obtain ⟨a0, len0, cap0, rfl⟩ := okWide_slice Try.underlying22 (hval 0 22 v0 rfl rfl)
  obtain ⟨l0, hl0, s0⟩ := open_slice_u8 Try.underlying22 Try.underlying5 (by kernel_rfl) h0
  have k1 := h1
  have lt1 : ∀ x ∈ p1, x.block < W.heap.size := by obtain ⟨m, hm⟩ := k1; exact DataW.trod_lt m _ _ _ hm
  obtain ⟨cz1, cm1, rfl, ym1, yz1⟩ := open_chain (show Value.okWide Try.prog W .any base cht v1 from (hval 1 27 v1 rfl rfl))
  have k2 := h2
  have lt2 : ∀ x ∈ p2, x.block < W.heap.size := by obtain ⟨m, hm⟩ := k2; exact DataW.trod_lt m _ _ _ hm
  obtain ⟨a2, rfl, rfl, rfl, w2⟩ := open_string Try.underlying9 (hval 2 9 v2 rfl rfl) h2
  have k3 := h3
  have lt3 : ∀ x ∈ p3, x.block < W.heap.size := by obtain ⟨m, hm⟩ := k3; exact DataW.trod_lt m _ _ _ hm
  obtain ⟨a3, len3, cap3, rfl⟩ := okWide_slice Try.underlying22 (hval 3 22 v3 rfl rfl)
  obtain ⟨l3, hl3, s3⟩ := open_slice_u8 Try.underlying22 Try.underlying5 (by kernel_rfl) h3
  clear hA0 hval0 hsz0 hsz
  refine (AuditKeeps_any _ l0 cz1 cm1 a2 _ l3 W s0 ym1 yz1 w2 s3).mono fun e W' ⟨he, bel⟩ => ?_
  subst he
  exact ⟨_, rfl, _, _, _, [], _, [], hW', trodAll_mk1 (shut_bool Try.underlying4 _), (trodAll_cons_mk (Below.trod laidOut (by kernel_rfl) (of_decide_eq_true (by kernel_rfl)) k0 bel lt0) (trodAll_cons_mk (Below.trod laidOut (by kernel_rfl) (of_decide_eq_true (by kernel_rfl)) k1 bel lt1) (trodAll_cons_mk (Below.trod laidOut (by kernel_rfl) (of_decide_eq_true (by kernel_rfl)) k2 bel lt2) (trodAll_cons_mk (Below.trod laidOut (by kernel_rfl) (of_decide_eq_true (by kernel_rfl)) k3 bel lt3) trodAll_mk0)))), rfl, bel.frame _, fun h => by cases h⟩
theorem over : Rows.auditKeepsRow.holds Try.pinned (OpenSpec.ofChange Rows.auditKeepsSpec) :=
  OpenClaim.holds_of_wide 4 Try.f4 rfl rfl rfl rfl rfl rfl rfl ⟨rfl, rfl, rfl, rfl, rfl⟩ rfl rfl rfl rfl rfl (by kernel_rfl) Try.func4 (by kernel_rfl)
    (of_decide_eq_true (by kernel_rfl)) (by unfold Func.isWrapper; first | (rw [if_pos (by decide +kernel)]; kernel_rfl) | (rw [if_neg (by decide +kernel)]; exact ⟨rfl, rfl⟩))
    (fun os started H enc _ => lifted os started H enc)
theorem proved : Rows.AuditKeepsSaid := over
#print axioms proved
end Go.Proofs.Ytpfmhohldfnhmaa.auditKeeps
namespace Go.Proofs.Ytpfmhohldfnhmaa
/-- The row, under a short name, for the claim. -/
theorem auditKeeps_holds : Rows.AuditKeepsSaid := auditKeeps.proved
end Go.Proofs.Ytpfmhohldfnhmaa
