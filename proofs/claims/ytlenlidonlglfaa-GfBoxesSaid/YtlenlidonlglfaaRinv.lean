/- The reference's inverse, by search; its box. -/
import Derived.Test.YtlenlidonlglfaaRa1
set_option linter.unusedVariables false
set_option linter.unusedSimpArgs false
namespace Lk
theorem inv_hit {a i : UInt8} (h : gmul a i = 1) : ginv a = i := by
  rcases (inv_spec a).1 with ⟨rfl, _⟩ | h1
  · rw [gmul_zero_left] at h; exact absurd h (by decide)
  · have h2 : gmul (gmul (ginv a) a) i = ginv a := by rw [← gmul_assoc, h, gmul_one]
    rw [gmul_comm (ginv a) a, h1, one_gmul] at h2
    exact h2.symm
theorem inv_none {a : UInt8} (h : ∀ j, 1 ≤ j → j < 256 → gmul a (UInt8.ofNat j) ≠ 1) : ginv a = 0 := by
  rcases (inv_spec a).1 with ⟨_, h0⟩ | h1
  · exact h0
  · exfalso
    have hlt := (ginv a).toNat_lt
    by_cases h0 : (ginv a).toNat = 0
    · have : ginv a = 0 := UInt8.toNat.inj h0
      rw [this, gmul_zero_right] at h1
      exact absurd h1 (by decide)
    · refine h (ginv a).toNat (by omega) hlt ?_
      rw [UInt8.ofNat_toNat]; exact h1
end Lk
namespace Go.Proofs.Ytlenlidonlglfaa
open Go Go.RowKit Lk
set_option maxHeartbeats 1600000 in
set_option maxRecDepth 100000 in
theorem rInv_any (a : UInt8) (w : World) : Calls Try.prog 12 #[.int .u8 (bv a)] w fun e w' => e = .returned (.int .u8 (bv (ginv a))) ∧ w' = w := by
  have r4 := eq1
  go_enter Try.func12, Try.ntmps12
  go_wp2
  go_loop [3] (fun i => ∃ k : Nat, 1 ≤ k ∧ k ≤ 256 ∧ i = .int .i64 k ∧ Hid (∀ j, 1 ≤ j → j < k → gmul a (UInt8.ofNat j) ≠ 1)) (fun i => 256 - (intOf i).toNat)
  case atStart => exact ⟨1, by omega, by omega, rfl, Lib.hid (fun j h1 h2 => by omega)⟩
  case round =>
    obtain ⟨k, hk1, hk2, rfl, HA⟩ := hrel
    by_cases hlt : k < 256
    · have HLT := Lib.hid hlt
      obtain ⟨x, hx⟩ : ∃ x, UInt8.ofNat k = x := ⟨_, rfl⟩
      have HX := Lib.hid hx
      have hkm : (k : Int) = bv x := by
        rw [← hx]; unfold bv; rw [UInt8.toNat_ofNat', Nat.mod_eq_of_lt hlt]
      have HKM := Lib.hid hkm
      have HML := Lib.hid (show Calls Try.prog 10 #[.int .u8 (bv a), .int .u8 (k : Int)] w fun e w' => e = .returned (.int .u8 (bv (gmul a x))) ∧ w' = w by rw [hkm]; exact rMul_any a x w)
      have hki : (k : Int) < 256 := by omega
      clear hkm
      clear hx
      by_cases h1 : gmul a x = 1
      · have H1 := Lib.hid (inv_hit h1)
        have u1 : (gmul a x == 1) = true := by rw [h1]; rfl
        clear h1
        go_wp2_with (go_at_call 10; refine HML.out.mono ?_; rintro e w ⟨rfl, rfl⟩)
        go_ret
        exact ⟨by rw [H1.out, ← HKM.out]; rfl, rfl⟩
      · have H1 := Lib.hid h1
        have u1 : (gmul a x == 1) = false := by simpa using h1
        clear h1
        go_wp2_with (go_at_call 10; refine HML.out.mono ?_; rintro e w ⟨rfl, rfl⟩)
        go_round
        case rel => exact ⟨k + 1, by omega, by have := HLT.out; omega, by go_num, Lib.hid (fun j j1 j2 => by
          by_cases e : j = k
          · rw [e, HX.out]; exact H1.out
          · exact HA.out j j1 (by omega))⟩
        case measure => have := HLT.out; simp [intOf]; omega
    · have HE := Lib.hid (inv_none (a := a) (fun j j1 j2 => HA.out j j1 (by omega)))
      go_wp2
      go_ret
      exact ⟨by rw [HE.out]; rfl, rfl⟩
theorem rBox_any (a : UInt8) (w : World) : Calls Try.prog 14 #[.int .u8 (bv a)] w fun e w' => e = .returned (.int .u8 (bv (gbox a))) ∧ w' = w := by
  go_enter Try.func14, Try.ntmps14
  go_wp2_with (first
    | (go_at_call 12; refine (rInv_any _ _).mono ?_; rintro e w ⟨rfl, rfl⟩)
    | (go_at_call 17; refine (rAff_any _ _).mono ?_; rintro e w ⟨rfl, rfl⟩))
  go_ret
  exact ⟨rfl, rfl⟩
end Go.Proofs.Ytlenlidonlglfaa
