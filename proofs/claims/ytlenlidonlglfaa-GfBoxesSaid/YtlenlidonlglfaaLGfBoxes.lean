/- GfBoxes: of whatever byte: its inverse, its box. -/
import Derived.Test.YtlenlidonlglfaaRa1
import Derived.Test.YtlenlidonlglfaaRinv
set_option linter.unusedVariables false
set_option linter.unusedSimpArgs false
namespace Go.Proofs.Ytlenlidonlglfaa
open Go Go.RowKit Lk
theorem lit_mul (w : World) : Calls Try.prog 9 #[.int .u8 87, .int .u8 131] w fun e w' => e = .returned (.int .u8 193) ∧ w = w' := by
  have := mul_any 0x57 0x83 w
  rw [show gmul 0x57 0x83 = 0xc1 from by decide +kernel] at this
  exact this
theorem lit_box0 (w : World) : Calls Try.prog 13 #[.int .u8 0] w fun e w' => e = .returned (.int .u8 99) ∧ Drawn w w' := by
  have := box_any 0 w
  rw [show gbox 0 = 0x63 from by decide +kernel] at this
  exact this
theorem lit_box1 (w : World) : Calls Try.prog 13 #[.int .u8 83] w fun e w' => e = .returned (.int .u8 237) ∧ Drawn w w' := by
  have := box_any 0x53 w
  rw [show gbox 0x53 = 0xed from by decide +kernel] at this
  exact this
theorem lit_unbox (w : World) : Calls Try.prog 15 #[.int .u8 237] w fun e w' => e = .returned (.int .u8 83) ∧ Drawn w w' := by
  have := unbox_any 0xed w
  rw [show gunbox 0xed = 0x53 from by decide +kernel] at this
  exact this
theorem lit_inv (w : World) : Calls Try.prog 11 #[.int .u8 1] w fun e w' => e = .returned (.int .u8 1) ∧ w = w' := by
  have := inv_any 1 w
  rw [show ginv 1 = 1 from by decide +kernel] at this
  exact this
set_option maxHeartbeats 1600000 in
set_option maxRecDepth 100000 in
theorem awake01 (w : World) : Calls Try.prog 8 #[] w fun e w' => e = .returned (.bool true) ∧ Drawn w w' := by
  go_enter Try.func8, Try.ntmps8
  go_wp2_with (first
    | (go_at_call 9; refine (lit_mul _).mono ?_; rintro e w' ⟨rfl, rfl⟩)
    | (go_at_call 13; (with_reducible refine (lit_box0 _).mono ?_); rintro e w' ⟨rfl, ⟨n, rfl⟩⟩)
    | (go_at_call 13; (with_reducible refine (lit_box1 _).mono ?_); rintro e w' ⟨rfl, ⟨n, rfl⟩⟩)
    | (go_at_call 15; refine (lit_unbox _).mono ?_; rintro e w' ⟨rfl, ⟨n, rfl⟩⟩)
    | (go_at_call 11; refine (lit_inv _).mono ?_; rintro e w' ⟨rfl, rfl⟩))
  go_ret
  exact ⟨rfl, by repeat (first | exact Drawn.refl _ | apply Drawn.step)⟩
set_option maxHeartbeats 1600000 in
set_option maxRecDepth 100000 in
theorem GfBoxes_any (a : UInt8) (w : World) : Calls Try.prog 4 #[.int .u8 (bv a)] w fun e w' => e = .returned (.bool true) ∧ Below w.heap.size w w' := by
  have q1 : (bv (ginv a) == bv (ginv a)) = true := by rw [beq_self_eq_true]
  have q2 : (bv (gbox a) == bv (gbox a)) = true := by rw [beq_self_eq_true]
  go_enter Try.func4, Try.ntmps4
  go_wp2_with (first
    | (go_at_call 8; refine (awake01 _).mono ?_; rintro e w' ⟨rfl, ⟨n, rfl⟩⟩)
    | (go_at_call 11; refine (inv_any _ _).mono ?_; rintro e w' ⟨rfl, rfl⟩)
    | (go_at_call 13; refine (box_any _ _).mono ?_; rintro e w' ⟨rfl, ⟨n, rfl⟩⟩)
    | (go_at_call 12; refine (rInv_any _ _).mono ?_; rintro e w' ⟨rfl, rfl⟩)
    | (go_at_call 14; refine (rBox_any _ _).mono ?_; rintro e w' ⟨rfl, rfl⟩))
  go_ret
  exact ⟨rfl, rfl, rfl, rfl, Nat.le_refl _, fun _ _ => rfl⟩
end Go.Proofs.Ytlenlidonlglfaa
