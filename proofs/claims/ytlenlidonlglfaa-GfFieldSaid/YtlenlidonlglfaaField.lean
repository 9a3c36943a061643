/- of every three bytes: products hang neither on the order nor on which two come first, they part over sums, 1 changes nothing, and a byte but 0 and its inverse make 1; no condition. -/
import Derived.Test.YtlenlidonlglfaaPureGfSquares
set_option linter.unusedVariables false
set_option linter.unusedSimpArgs false
namespace Go.Proofs.Ytlenlidonlglfaa.Field
open Go.RowKit Go.Proofs.Ytlenlidonlglfaa.PGfSquares Go.Proofs.YtlenlidonlglfaaW.PrintWords Go.Proofs.YtlenlidonlglfaaW.PrintLast Go.Proofs.YtlenlidonlglfaaW.PrintMore
open Lk
def bv (a : UInt8) : Int := a.toNat
theorem bv_xor (a b : UInt8) : bits .xor .u8 (bv a) (bv b) = bv (a ^^^ b) := bits_xor_u8 a b
theorem bv_eq (a b : UInt8) : (bv a == bv b) = (a == b) := by
  rw [Bool.eq_iff_iff, beq_iff_eq, beq_iff_eq]; exact u8_eq a b
theorem bv_ne (a b : UInt8) : (bv a != bv b) = (a != b) := by
  unfold bne; rw [bv_eq]
theorem mulc (a b : UInt8) (w : World) : Calls Try.prog 9 #[.int .u8 (bv a), .int .u8 (bv b)] w fun e w' => e = .returned (.int .u8 (bv (gmul a b))) ∧ Drawn0 w w' :=
  gf_Mul.calls 17 _ _ _ w (Pure.mul_at 17 (by decide) a b)
theorem mulc1 (a : UInt8) (w : World) : Calls Try.prog 9 #[.int .u8 (bv a), .int .u8 1] w fun e w' => e = .returned (.int .u8 (bv a)) ∧ Drawn0 w w' := by
  have := mulc a 1 w
  rw [gmul_one] at this
  exact this
theorem invc (a : UInt8) (w : World) : Calls Try.prog 11 #[.int .u8 (bv a)] w fun e w' => e = .returned (.int .u8 (bv (ginv a))) ∧ Drawn0 w w' :=
  gf_Inv.calls 17 _ _ w (Pure.inv_at 17 (by decide) a)
theorem awakec (w : World) : Calls Try.prog 8 #[] w fun e w' => e = .returned (.bool true) ∧ Drawn0 w w' :=
  lockboxlaw01_awake.calls 17 _ w (Pure.awake_at 17 (by decide))
theorem neqf {a b : UInt8} (h : a = b) : (bv a != bv b) = false := by rw [h]; simp
theorem eqt {a b : UInt8} (h : a = b) : (bv a == bv b) = true := by rw [h]; simp
set_option maxHeartbeats 800000 in
set_option maxRecDepth 100000 in
theorem walk (a b c : UInt8) (w : World) :
    Calls Try.prog 5 #[.int .u8 (bv a), .int .u8 (bv b), .int .u8 (bv c)] w fun e w' => e = .returned (.bool true) ∧ Drawn0 w w' := by
  have hx := bv_xor
  have h1 := neqf (gmul_comm a b)
  have h2 := neqf (gmul_assoc a b c)
  have h3 := eqt (gmul_xor_right a b c)
  by_cases ha : a = 0
  · have hi : ginv a = 0 := by rw [ha]; apply UInt8.toNat.inj; rw [ginv_N]; decide +kernel
    have h4 : (bv a == 0) = true := eqt (b := 0) ha
    have h5 : (bv (ginv a) == 0) = true := eqt (b := 0) hi
    clear ha hi
    go_enter Try.func5, Try.ntmps5
    go_wp2_with (first | (go_at_call 8; refine (awakec _).mono ?_; rintro e w' ⟨rfl, ⟨n, rfl⟩⟩) | (go_at_call 9; (with_reducible refine (mulc _ _ _).mono ?_); rintro e w' ⟨rfl, ⟨n, rfl⟩⟩) | (go_at_call 9; (with_reducible refine (mulc1 _ _).mono ?_); rintro e w' ⟨rfl, ⟨n, rfl⟩⟩) | (go_at_call 11; refine (invc _ _).mono ?_; rintro e w' ⟨rfl, ⟨n, rfl⟩⟩))
    go_ret
    exact ⟨rfl, by repeat (first | exact Drawn0.refl _ | apply Drawn0.step)⟩
  · have h4 : (bv a == 0) = false := by
      rw [beq_eq_false_iff_ne]
      exact fun h => ha ((u8_eq a 0).1 h)
    have h5 : (bv (gmul a (ginv a)) == 1) = true := eqt (b := 1) ((inv_spec a).1.resolve_left (fun h => ha h.1))
    clear ha
    go_enter Try.func5, Try.ntmps5
    go_wp2_with (first | (go_at_call 8; refine (awakec _).mono ?_; rintro e w' ⟨rfl, ⟨n, rfl⟩⟩) | (go_at_call 9; (with_reducible refine (mulc _ _ _).mono ?_); rintro e w' ⟨rfl, ⟨n, rfl⟩⟩) | (go_at_call 9; (with_reducible refine (mulc1 _ _).mono ?_); rintro e w' ⟨rfl, ⟨n, rfl⟩⟩) | (go_at_call 11; refine (invc _ _).mono ?_; rintro e w' ⟨rfl, ⟨n, rfl⟩⟩))
    go_ret
    exact ⟨rfl, by repeat (first | exact Drawn0.refl _ | apply Drawn0.step)⟩
end Go.Proofs.Ytlenlidonlglfaa.Field
