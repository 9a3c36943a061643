/- GfSquares: of sums of bytes: the square of a sum is the sum of the squares, and a product is 0 only if one of both is: for every two bytes; no condition. -/
import Derived.Test.YtlenlidonlglfaaPGfSquaresx1
import Derived.Test.YtlenlidonlglfaaBits
set_option linter.unusedVariables false
set_option linter.unusedSimpArgs false
namespace Go.Proofs.Ytlenlidonlglfaa.Pure
open Go.RowKit Go.Proofs.Ytlenlidonlglfaa.PGfSquares Go.Proofs.YtlenlidonlglfaaW.PrintWords Go.Proofs.YtlenlidonlglfaaW.PrintLast Go.Proofs.YtlenlidonlglfaaW.PrintMore

open Lk
theorem mul_step (n : Nat) : ∀ (k : Nat) (a b o : UInt8) (i : Int), 0 ≤ i → i ≤ 8 → 8 - i = n → n < k → gf_Mul.l0 k a.toNat b.toNat o.toNat i = some ((mulLoop n o a b).toNat : Int) := by
  induction n with
  | zero =>
    intro k a b o i h0 h8 hn hk
    obtain ⟨k, rfl⟩ : ∃ m, k = m + 1 := ⟨k - 1, by omega⟩
    simp only [gf_Mul.l0, mulLoop]
    rw [if_neg (by omega)]
  | succ n ih =>
    intro k a b o i h0 h8 hn hk
    obtain ⟨k, rfl⟩ : ∃ m, k = m + 1 := ⟨k - 1, by omega⟩
    have hw : wrap64 (i + 1) = i + 1 := by unfold wrap64; omega
    have e1 : (1 : Int) = ((1 : UInt8).toNat : Int) := rfl
    have e128 : (128 : Int) = ((0x80 : UInt8).toNat : Int) := rfl
    have e27 : (27 : Int) = ((0x1b : UInt8).toNat : Int) := rfl
    have e0 : (0 : Int) = ((0 : UInt8).toNat : Int) := rfl
    have cb : Go.bits .and .u8 (b.toNat : Int) 1 = ((b &&& 1).toNat : Int) := by rw [e1, bits_and_u8]
    have ca : Go.bits .and .u8 (a.toNat : Int) 128 = ((a &&& 0x80).toNat : Int) := by rw [e128, bits_and_u8]
    have cb' : (((b &&& 1).toNat : Int) = 1) ↔ (b &&& 1 = 1) := by rw [e1]; exact u8_eq _ _
    have ca' : (((a &&& 0x80).toNat : Int) = 0) ↔ (a &&& 0x80 = 0) := by rw [e0]; exact u8_eq _ _
    simp only [gf_Mul.l0, mulLoop]
    rw [if_pos (by omega), hw, cb, ca, dbl_u8, half_u8, bits_xor_u8, e27, bits_xor_u8]
    have hx : ∀ o' : UInt8, gf_Mul.l0 k ((xt a).toNat) ((b >>> 1).toNat) o'.toNat (i + 1) = some ((mulLoop n o' (xt a) (b >>> 1)).toNat : Int) := fun o' => ih k _ _ o' (i + 1) (by omega) (by omega) (by omega) (by omega)
    by_cases h1 : b &&& 1 = 1
    · rw [if_pos (cb'.2 h1), show (b &&& 1 == 1) = true from by rw [h1]; rfl, if_pos (rfl : true = true)]
      rcases hi80 a with ⟨h2, e2⟩ | ⟨h2, e2⟩
      · rw [if_pos (ca'.2 h2)]
        have : a <<< 1 = xt a := by show _ = a <<< 1 ^^^ hi a; rw [e2]; simp
        rw [this]; exact hx _
      · rw [if_neg (by rw [ca', h2]; decide)]
        have : a <<< 1 ^^^ 0x1b = xt a := by show _ = a <<< 1 ^^^ hi a; rw [e2]
        rw [this]; exact hx _
    · have h1' : b &&& 1 = 0 := (low01 b).resolve_right h1
      rw [if_neg (fun h => h1 (cb'.1 h)), show (b &&& 1 == 1) = false from by rw [h1']; rfl, if_neg (by decide : ¬ (false = true))]
      rcases hi80 a with ⟨h2, e2⟩ | ⟨h2, e2⟩
      · rw [if_pos (ca'.2 h2)]
        have : a <<< 1 = xt a := by show _ = a <<< 1 ^^^ hi a; rw [e2]; simp
        rw [this]; exact hx _
      · rw [if_neg (by rw [ca', h2]; decide)]
        have : a <<< 1 ^^^ 0x1b = xt a := by show _ = a <<< 1 ^^^ hi a; rw [e2]
        rw [this]; exact hx _
theorem mul_at (k : Nat) (hk : 8 < k) (a b : UInt8) : gf_Mul.f k a.toNat b.toNat = some ((gmul a b).toNat : Int) :=
  mul_step 8 k a b 0 0 (by omega) (by omega) (by omega) hk
theorem inv_step (n : Nat) : ∀ (k : Nat) (a o : UInt8) (i : Int), 0 ≤ i → i ≤ 7 → 7 - i = n → n + 9 < k → gf_Inv.l0 k a.toNat o.toNat i = some ((invLoop n o a).toNat : Int) := by
  induction n with
  | zero =>
    intro k a o i h0 h8 hn hk
    obtain ⟨k, rfl⟩ : ∃ m, k = m + 1 := ⟨k - 1, by omega⟩
    simp only [gf_Inv.l0, invLoop]
    rw [if_neg (by omega)]
  | succ n ih =>
    intro k a o i h0 h8 hn hk
    obtain ⟨k, rfl⟩ : ∃ m, k = m + 1 := ⟨k - 1, by omega⟩
    have hw : wrap64 (i + 1) = i + 1 := by unfold wrap64; omega
    simp only [gf_Inv.l0, invLoop]
    rw [if_pos (by omega), hw, mul_at k (by omega)]
    simp only [Option.bind_some]
    rw [mul_at k (by omega)]
    simp only [Option.bind_some]
    exact ih k _ _ (i + 1) (by omega) (by omega) (by omega) (by omega)
theorem inv_at (k : Nat) (hk : 16 < k) (a : UInt8) : gf_Inv.f k a.toNat = some ((ginv a).toNat : Int) :=
  inv_step 7 k a 1 0 (by omega) (by omega) (by omega) hk
set_option maxRecDepth 10000 in
theorem turn_all : (List.range 256).all (fun n => ([1, 2, 3, 4, 6] : List Nat).all fun i => gf_turn.f (n : Int) (i : Int) == some ((rotN n i : Nat) : Int)) = true := by decide +kernel
theorem turn_at (i : Nat) (hi : i ∈ ([1, 2, 3, 4, 6] : List Nat)) (a : UInt8) : gf_turn.f a.toNat i = some ((rot a i).toNat : Int) := by
  have h := turn_all
  rw [List.all_eq_true] at h
  have h2 := h a.toNat (by rw [List.mem_range]; exact a.toNat_lt)
  rw [List.all_eq_true] at h2
  have h3 := h2 i hi
  rw [rot_N a i (by simp at hi; omega) (by simp at hi; omega)]
  simpa using h3
theorem box_at (k : Nat) (hk : 16 < k) (a : UInt8) : gf_Box.f k a.toNat = some ((gbox a).toNat : Int) := by
  have t1 := turn_at 1 (by decide) (ginv a)
  have t2 := turn_at 2 (by decide) (ginv a)
  have t3 := turn_at 3 (by decide) (ginv a)
  have t4 := turn_at 4 (by decide) (ginv a)
  simp only [Int.cast_ofNat_Int] at t1 t2 t3 t4
  unfold gf_Box.f
  rw [inv_at k hk]
  simp only [Option.bind_some, t1, t2, t3, t4, bits_xor_u8]
  rw [show (99 : Int) = ((0x63 : UInt8).toNat : Int) from rfl, bits_xor_u8]
  rfl
theorem unbox_at (k : Nat) (hk : 16 < k) (a : UInt8) : gf_Unbox.f k a.toNat = some ((gunbox a).toNat : Int) := by
  have t1 := turn_at 1 (by decide) a
  have t3 := turn_at 3 (by decide) a
  have t6 := turn_at 6 (by decide) a
  simp only [Int.cast_ofNat_Int] at t1 t3 t6
  unfold gf_Unbox.f
  simp only [Option.bind_some, t1, t3, t6, bits_xor_u8]
  rw [show (5 : Int) = ((5 : UInt8).toNat : Int) from rfl, bits_xor_u8, inv_at k hk]
  rfl
theorem awake_at (k : Nat) (hk : 16 < k) : lockboxlaw01_awake.f k = some true := by
  unfold lockboxlaw01_awake.f
  rw [show gf_Mul.f k 87 131 = some 193 from (mul_at k (by omega) 0x57 0x83).trans (by rw [gmul_N]; decide +kernel)]
  rw [show gf_Box.f k 0 = some 99 from (box_at k hk 0).trans (by rw [gbox_N]; decide +kernel)]
  rw [show gf_Box.f k 83 = some 237 from (box_at k hk 0x53).trans (by rw [gbox_N]; decide +kernel)]
  rw [show gf_Unbox.f k 237 = some 83 from (unbox_at k hk 0xed).trans (by rw [gunbox_N]; decide +kernel)]
  rw [show gf_Inv.f k 1 = some 1 from (inv_at k hk 1).trans (by rw [ginv_N]; decide +kernel)]
  rfl

theorem GfSquares : lockboxlaw01_GfSquares.Pure := by
  intro a0 a1 h0 h1
  obtain ⟨a, rfl⟩ := open_u8 h0
  obtain ⟨b, rfl⟩ := open_u8 h1
  refine ⟨17, ?_⟩
  unfold lockboxlaw01_GfSquares.f
  rw [awake_at 17 (by decide)]
  simp only [Option.bind_some, if_true, bits_xor_u8, mul_at 17 (by decide)]
  rw [if_pos (by rw [gmul_sq])]
  have e0 : (0 : Int) = ((0 : UInt8).toNat : Int) := rfl
  have z : ∀ x : UInt8, ((x.toNat : Int) == 0) = (x == 0) := by
    intro x
    rw [Bool.eq_iff_iff, beq_iff_eq, beq_iff_eq, e0]
    exact u8_eq _ _
  rw [z, z]
  by_cases ha : a = 0
  · subst ha
    rw [if_pos (by rfl : ((UInt8.toNat 0 : Nat) : Int) = 0), gmul_zero_left]; rfl
  · rw [if_neg (by rw [e0, u8_eq]; exact ha)]
    have : (gmul a b == 0) = (b == 0) := by
      rw [Bool.eq_iff_iff, beq_iff_eq, beq_iff_eq, gmul_eq_zero]
      exact ⟨fun h => h.resolve_left ha, fun h => .inr h⟩
    rw [this]; simp

end Go.Proofs.Ytlenlidonlglfaa.Pure
