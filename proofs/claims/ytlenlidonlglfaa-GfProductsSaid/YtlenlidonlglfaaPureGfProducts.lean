/- GfProducts: of every two bytes: the product is the product of their polynomials, and its rest; no condition. -/
import Derived.Test.YtlenlidonlglfaaPGfProductsx1
import Derived.Test.YtlenlidonlglfaaBits
set_option linter.unusedVariables false
set_option linter.unusedSimpArgs false
namespace Go.Proofs.Ytlenlidonlglfaa.Pure
open Go.RowKit Go.Proofs.Ytlenlidonlglfaa.PGfProducts Go.Proofs.YtlenlidonlglfaaW.PrintWords Go.Proofs.YtlenlidonlglfaaW.PrintLast Go.Proofs.YtlenlidonlglfaaW.PrintMore

open Lk
theorem mul_step (n : Nat) : ∀ (k : Nat) (a b o : UInt8) (i : Int), 0 ≤ i → i ≤ 8 → 8 - i = n → n < k → gf_Mul.l0 k a.toNat b.toNat o.toNat i = some ((mulLoop n o a b).toNat : Int) := by
  induction n with
  | zero =>
    intro k a b o i h0 h8 hn hk
    obtain ⟨k, rfl⟩ : ∃ m, k = m + 1 := ⟨k - 1, by omega⟩
    simp only [gf_Mul.l0, mulLoop]
    rw [if_neg (by omega)]
  | succ n ih =>
    intro k a b o i h0 h8 hn hk
    obtain ⟨k, rfl⟩ : ∃ m, k = m + 1 := ⟨k - 1, by omega⟩
    have hw : wrap64 (i + 1) = i + 1 := by unfold wrap64; omega
    have e1 : (1 : Int) = ((1 : UInt8).toNat : Int) := rfl
    have e128 : (128 : Int) = ((0x80 : UInt8).toNat : Int) := rfl
    have e27 : (27 : Int) = ((0x1b : UInt8).toNat : Int) := rfl
    have e0 : (0 : Int) = ((0 : UInt8).toNat : Int) := rfl
    have cb : Go.bits .and .u8 (b.toNat : Int) 1 = ((b &&& 1).toNat : Int) := by rw [e1, bits_and_u8]
    have ca : Go.bits .and .u8 (a.toNat : Int) 128 = ((a &&& 0x80).toNat : Int) := by rw [e128, bits_and_u8]
    have cb' : (((b &&& 1).toNat : Int) = 1) ↔ (b &&& 1 = 1) := by rw [e1]; exact u8_eq _ _
    have ca' : (((a &&& 0x80).toNat : Int) = 0) ↔ (a &&& 0x80 = 0) := by rw [e0]; exact u8_eq _ _
    simp only [gf_Mul.l0, mulLoop]
    rw [if_pos (by omega), hw, cb, ca, dbl_u8, half_u8, bits_xor_u8, e27, bits_xor_u8]
    have hx : ∀ o' : UInt8, gf_Mul.l0 k ((xt a).toNat) ((b >>> 1).toNat) o'.toNat (i + 1) = some ((mulLoop n o' (xt a) (b >>> 1)).toNat : Int) := fun o' => ih k _ _ o' (i + 1) (by omega) (by omega) (by omega) (by omega)
    by_cases h1 : b &&& 1 = 1
    · rw [if_pos (cb'.2 h1), show (b &&& 1 == 1) = true from by rw [h1]; rfl, if_pos (rfl : true = true)]
      rcases hi80 a with ⟨h2, e2⟩ | ⟨h2, e2⟩
      · rw [if_pos (ca'.2 h2)]
        have : a <<< 1 = xt a := by show _ = a <<< 1 ^^^ hi a; rw [e2]; simp
        rw [this]; exact hx _
      · rw [if_neg (by rw [ca', h2]; decide)]
        have : a <<< 1 ^^^ 0x1b = xt a := by show _ = a <<< 1 ^^^ hi a; rw [e2]
        rw [this]; exact hx _
    · have h1' : b &&& 1 = 0 := (low01 b).resolve_right h1
      rw [if_neg (fun h => h1 (cb'.1 h)), show (b &&& 1 == 1) = false from by rw [h1']; rfl, if_neg (by decide : ¬ (false = true))]
      rcases hi80 a with ⟨h2, e2⟩ | ⟨h2, e2⟩
      · rw [if_pos (ca'.2 h2)]
        have : a <<< 1 = xt a := by show _ = a <<< 1 ^^^ hi a; rw [e2]; simp
        rw [this]; exact hx _
      · rw [if_neg (by rw [ca', h2]; decide)]
        have : a <<< 1 ^^^ 0x1b = xt a := by show _ = a <<< 1 ^^^ hi a; rw [e2]
        rw [this]; exact hx _
theorem mul_at (k : Nat) (hk : 8 < k) (a b : UInt8) : gf_Mul.f k a.toNat b.toNat = some ((gmul a b).toNat : Int) :=
  mul_step 8 k a b 0 0 (by omega) (by omega) (by omega) hk
theorem inv_step (n : Nat) : ∀ (k : Nat) (a o : UInt8) (i : Int), 0 ≤ i → i ≤ 7 → 7 - i = n → n + 9 < k → gf_Inv.l0 k a.toNat o.toNat i = some ((invLoop n o a).toNat : Int) := by
  induction n with
  | zero =>
    intro k a o i h0 h8 hn hk
    obtain ⟨k, rfl⟩ : ∃ m, k = m + 1 := ⟨k - 1, by omega⟩
    simp only [gf_Inv.l0, invLoop]
    rw [if_neg (by omega)]
  | succ n ih =>
    intro k a o i h0 h8 hn hk
    obtain ⟨k, rfl⟩ : ∃ m, k = m + 1 := ⟨k - 1, by omega⟩
    have hw : wrap64 (i + 1) = i + 1 := by unfold wrap64; omega
    simp only [gf_Inv.l0, invLoop]
    rw [if_pos (by omega), hw, mul_at k (by omega)]
    simp only [Option.bind_some]
    rw [mul_at k (by omega)]
    simp only [Option.bind_some]
    exact ih k _ _ (i + 1) (by omega) (by omega) (by omega) (by omega)
theorem inv_at (k : Nat) (hk : 16 < k) (a : UInt8) : gf_Inv.f k a.toNat = some ((ginv a).toNat : Int) :=
  inv_step 7 k a 1 0 (by omega) (by omega) (by omega) hk
set_option maxRecDepth 10000 in
theorem turn_all : (List.range 256).all (fun n => ([1, 2, 3, 4, 6] : List Nat).all fun i => gf_turn.f (n : Int) (i : Int) == some ((rotN n i : Nat) : Int)) = true := by decide +kernel
theorem turn_at (i : Nat) (hi : i ∈ ([1, 2, 3, 4, 6] : List Nat)) (a : UInt8) : gf_turn.f a.toNat i = some ((rot a i).toNat : Int) := by
  have h := turn_all
  rw [List.all_eq_true] at h
  have h2 := h a.toNat (by rw [List.mem_range]; exact a.toNat_lt)
  rw [List.all_eq_true] at h2
  have h3 := h2 i hi
  rw [rot_N a i (by simp at hi; omega) (by simp at hi; omega)]
  simpa using h3
theorem box_at (k : Nat) (hk : 16 < k) (a : UInt8) : gf_Box.f k a.toNat = some ((gbox a).toNat : Int) := by
  have t1 := turn_at 1 (by decide) (ginv a)
  have t2 := turn_at 2 (by decide) (ginv a)
  have t3 := turn_at 3 (by decide) (ginv a)
  have t4 := turn_at 4 (by decide) (ginv a)
  simp only [Int.cast_ofNat_Int] at t1 t2 t3 t4
  unfold gf_Box.f
  rw [inv_at k hk]
  simp only [Option.bind_some, t1, t2, t3, t4, bits_xor_u8]
  rw [show (99 : Int) = ((0x63 : UInt8).toNat : Int) from rfl, bits_xor_u8]
  rfl
theorem unbox_at (k : Nat) (hk : 16 < k) (a : UInt8) : gf_Unbox.f k a.toNat = some ((gunbox a).toNat : Int) := by
  have t1 := turn_at 1 (by decide) a
  have t3 := turn_at 3 (by decide) a
  have t6 := turn_at 6 (by decide) a
  simp only [Int.cast_ofNat_Int] at t1 t3 t6
  unfold gf_Unbox.f
  simp only [Option.bind_some, t1, t3, t6, bits_xor_u8]
  rw [show (5 : Int) = ((5 : UInt8).toNat : Int) from rfl, bits_xor_u8, inv_at k hk]
  rfl
theorem awake_at (k : Nat) (hk : 16 < k) : lockboxlaw01_awake.f k = some true := by
  unfold lockboxlaw01_awake.f
  rw [show gf_Mul.f k 87 131 = some 193 from (mul_at k (by omega) 0x57 0x83).trans (by rw [gmul_N]; decide +kernel)]
  rw [show gf_Box.f k 0 = some 99 from (box_at k hk 0).trans (by rw [gbox_N]; decide +kernel)]
  rw [show gf_Box.f k 83 = some 237 from (box_at k hk 0x53).trans (by rw [gbox_N]; decide +kernel)]
  rw [show gf_Unbox.f k 237 = some 83 from (unbox_at k hk 0xed).trans (by rw [gunbox_N]; decide +kernel)]
  rw [show gf_Inv.f k 1 = some 1 from (inv_at k hk 1).trans (by rw [ginv_N]; decide +kernel)]
  rfl

theorem bit_one (a i : Nat) (ha : a < 2 ^ 15) (hi : i < 16) : Go.bits .and .i64 (shr .i64 (a : Int) (i : Int)) 1 = if Nat.testBit a i = true then 1 else 0 := by
  have e : shr .i64 (a : Int) (i : Int) = ((a >>> i : Nat) : Int) := by
    unfold shr
    rw [Int.toNat_natCast, Nat.min_eq_left (show i ≤ IntKind.i64.bits by show i ≤ 64; omega), Nat.shiftRight_eq_div_pow]
    simp
  have hlt : a >>> i < 2 ^ 63 := by rw [Nat.shiftRight_eq_div_pow]; exact Nat.lt_of_le_of_lt (Nat.div_le_self _ _) (by omega)
  rw [e, show (1 : Int) = ((1 : Nat) : Int) from rfl, bits_and_i64 _ _ hlt (by decide)]
  unfold Nat.testBit
  rw [Nat.and_comm]
  have h01 : 1 &&& a >>> i = 0 ∨ 1 &&& a >>> i = 1 := by rw [Nat.and_comm, Nat.and_one_is_mod]; omega
  rcases h01 with h | h <;> rw [h] <;> rfl
theorem shl_one (x i : Nat) (h : x * 2 ^ i < 2 ^ 62) (hi : i < 16) : shl .i64 (x : Int) (i : Int) = ((Nat.shiftLeft x i : Nat) : Int) := by
  unfold shl
  rw [Int.toNat_natCast, Nat.min_eq_left (show i ≤ IntKind.i64.bits by show i ≤ 64; omega)]
  show _ = ((x <<< i : Nat) : Int)
  rw [Nat.shiftLeft_eq, show ((x : Int) * 2 ^ i) = ((x * 2 ^ i : Nat) : Int) by simp, wrap_i64 _ (by omega)]
theorem xor_lt15 (p q : Nat) (hp : p < 2 ^ 15) (hq : q < 2 ^ 15) : Nat.xor p q < 2 ^ 15 := Nat.xor_lt_two_pow hp hq
theorem tm_lt (a b i j : Nat) (h : i + j < 15) : tm a b i j < 2 ^ 15 := by
  unfold tm
  cases (Nat.testBit a i && Nat.testBit b j)
  · exact (by decide : (0 : Nat) < 2 ^ 15)
  · show (1 <<< (i + j) : Nat) < 2 ^ 15
    rw [Nat.shiftLeft_eq, Nat.one_mul]
    exact Nat.pow_lt_pow_right (by decide) h
theorem rt_lt (p n : Nat) (h : n < 7) : rt p n < 2 ^ 15 := by
  unfold rt
  cases Nat.testBit p (n + 8)
  · exact (by decide : (0 : Nat) < 2 ^ 15)
  · show (283 <<< n : Nat) < 2 ^ 15
    rw [Nat.shiftLeft_eq]
    have : 2 ^ n ≤ 2 ^ 6 := Nat.pow_le_pow_right (by decide) (by omega)
    have : 283 * 2 ^ n ≤ 283 * 2 ^ 6 := Nat.mul_le_mul_left _ this
    omega
theorem w64 (n : Nat) (h : n < 2 ^ 62) : wrap64 (n : Int) = (n : Int) := by unfold wrap64; omega
theorem rred_l (n : Nat) : ∀ (k p : Nat) (i : Int), p < 2 ^ 15 → n ≤ 7 → i = (n : Int) + 7 → n < k → lockboxref01_Mul.l2 k (p : Int) i = some ((Nat.mod (rred n p) 256 : Nat) : Int) := by
  induction n with
  | zero =>
    intro k p i hp hn hi hk
    obtain ⟨k, rfl⟩ : ∃ m, k = m + 1 := ⟨k - 1, by omega⟩
    simp only [lockboxref01_Mul.l2, rred]
    rw [if_neg (by omega)]
    rfl
  | succ n ih =>
    intro k p i hp hn hi hk
    obtain ⟨k, rfl⟩ : ∃ m, k = m + 1 := ⟨k - 1, by omega⟩
    obtain rfl : i = ((n + 8 : Nat) : Int) := by omega
    have e1 : wrap64 (((n + 8 : Nat) : Int) - 1) = ((n + 7 : Nat) : Int) := by unfold wrap64; omega
    have e8 : wrap64 (((n + 8 : Nat) : Int) - 8) = (n : Int) := by unfold wrap64; omega
    simp only [lockboxref01_Mul.l2, rred]
    rw [if_pos (by omega), wrap_u64 _ (by omega), if_pos (by omega), bit_one p (n + 8) hp (by omega), e8, e1, wrap_u64 _ (by omega), if_pos (by omega : (0 : Int) ≤ (n : Int))]
    by_cases hb : Nat.testBit p (n + 8) = true
    · rw [if_pos hb, if_pos rfl, show (283 : Int) = ((283 : Nat) : Int) from rfl]
      have hl : Nat.shiftLeft 283 n < 2 ^ 15 := by have := rt_lt p n (by omega); unfold rt at this; rw [hb] at this; exact this
      have : 283 * 2 ^ n < 2 ^ 62 := by have h2 : 283 <<< n < 2 ^ 15 := hl; rw [Nat.shiftLeft_eq] at h2; omega
      rw [shl_one _ _ this (by omega), bits_xor_i64 _ _ (by omega) (by omega)]
      have hr : rt p n = Nat.shiftLeft 283 n := by unfold rt; rw [hb]; rfl
      rw [hr]
      exact ih k _ _ (xor_lt15 _ _ hp hl) (by omega) (by omega) (by omega)
    · rw [if_neg hb, if_neg (by decide)]
      have hr : rt p n = 0 := by unfold rt; rw [Bool.eq_false_iff.2 hb]; rfl
      rw [hr, show Nat.xor p 0 = p from Nat.xor_zero p]
      exact ih k _ _ hp (by omega) (by omega) (by omega)
theorem rinner_l (n : Nat) : ∀ (k a b p i : Nat) (R : Option Int), a < 256 → b < 256 → p < 2 ^ 15 → i < 8 → n ≤ 8 → n < k →
    (∀ k', k - n - 1 ≤ k' → lockboxref01_Mul.l0 k' (a : Int) (b : Int) ((rinner n a b i p : Nat) : Int) ((i + 1 : Nat) : Int) = R) →
    lockboxref01_Mul.l1 k (a : Int) (b : Int) (p : Int) (i : Int) ((8 - n : Nat) : Int) = R := by
  induction n with
  | zero =>
    intro k a b p i R ha hb hp hi hn hk hR
    obtain ⟨k, rfl⟩ : ∃ m, k = m + 1 := ⟨k - 1, by omega⟩
    have e1 : wrap64 ((i : Int) + 1) = ((i + 1 : Nat) : Int) := by unfold wrap64; omega
    simp only [lockboxref01_Mul.l1]
    rw [if_neg (by omega), e1]
    exact hR k (by omega)
  | succ n ih =>
    intro k a b p i R ha hb hp hi hn hk hR
    obtain ⟨k, rfl⟩ : ∃ m, k = m + 1 := ⟨k - 1, by omega⟩
    have e1 : wrap64 (((8 - (n + 1) : Nat) : Int) + 1) = ((8 - n : Nat) : Int) := by unfold wrap64; omega
    have e2 : wrap64 ((i : Int) + ((8 - (n + 1) : Nat) : Int)) = ((i + (7 - n) : Nat) : Int) := by unfold wrap64; omega
    have e3 : (8 - (n + 1) : Nat) = 7 - n := by omega
    simp only [lockboxref01_Mul.l1]
    rw [if_pos (by omega), w64 a (by omega), w64 b (by omega), e1, e2, e3, wrap_u64 i (by omega), wrap_u64 (7 - n) (by omega), wrap_u64 (i + (7 - n)) (by omega),
      if_pos (by omega : (0 : Int) ≤ (i : Int)), if_pos (by omega : (0 : Int) ≤ ((7 - n : Nat) : Int)), if_pos (by omega : (0 : Int) ≤ ((i + (7 - n) : Nat) : Int)),
      bit_one a i (by omega) (by omega), bit_one b (7 - n) (by omega) (by omega)]
    have hlast : ∀ q : Nat, q < 2 ^ 15 → Nat.xor p (tm a b i (7 - n)) = q → lockboxref01_Mul.l1 k (a : Int) (b : Int) (q : Int) (i : Int) ((8 - n : Nat) : Int) = R := by
      intro q hq e
      refine ih k a b q i R ha hb hq hi (by omega) (by omega) (fun k' hk' => ?_)
      rw [← e]
      exact hR k' (by omega)
    by_cases h1 : Nat.testBit a i = true
    · rw [if_pos h1, if_pos rfl]
      by_cases h2 : Nat.testBit b (7 - n) = true
      · rw [if_pos h2, if_pos rfl]
        have ht : tm a b i (7 - n) = Nat.shiftLeft 1 (i + (7 - n)) := by unfold tm; rw [h1, h2]; rfl
        have hl := tm_lt a b i (7 - n) (by omega)
        have hp2 : 1 * 2 ^ (i + (7 - n)) < 2 ^ 62 := by
          have h3 : (1 <<< (i + (7 - n)) : Nat) < 2 ^ 15 := by rw [ht] at hl; exact hl
          rw [Nat.shiftLeft_eq] at h3; omega
        rw [show shl .i64 1 ((i + (7 - n) : Nat) : Int) = _ from shl_one 1 (i + (7 - n)) hp2 (by omega), ← ht, bits_xor_i64 _ _ (by omega) (by omega)]
        exact hlast _ (xor_lt15 _ _ hp hl) rfl
      · rw [if_neg h2, if_neg (by decide)]
        have ht : tm a b i (7 - n) = 0 := by unfold tm; rw [h1, Bool.eq_false_iff.2 h2]; rfl
        exact hlast p hp (by rw [ht]; exact Nat.xor_zero p)
    · rw [if_neg h1, if_neg (by decide)]
      have ht : tm a b i (7 - n) = 0 := by unfold tm; rw [Bool.eq_false_iff.2 h1]; rfl
      exact hlast p hp (by rw [ht]; exact Nat.xor_zero p)
theorem rinner_lt (n : Nat) : ∀ (a b i p : Nat), p < 2 ^ 15 → i < 8 → n ≤ 8 → rinner n a b i p < 2 ^ 15 := by
  induction n with
  | zero => intro a b i p hp _ _; exact hp
  | succ n ih => intro a b i p hp hi hn; simp only [rinner]; exact ih _ _ _ _ (xor_lt15 _ _ hp (tm_lt a b i (7 - n) (by omega))) hi (by omega)
theorem router_l (n : Nat) : ∀ (k a b p : Nat), a < 256 → b < 256 → p < 2 ^ 15 → n ≤ 8 → 10 * n + 10 < k → lockboxref01_Mul.l0 k (a : Int) (b : Int) (p : Int) ((8 - n : Nat) : Int) = some ((Nat.mod (rred 7 (router n a b p)) 256 : Nat) : Int) := by
  induction n with
  | zero =>
    intro k a b p ha hb hp hn hk
    obtain ⟨k, rfl⟩ : ∃ m, k = m + 1 := ⟨k - 1, by omega⟩
    simp only [lockboxref01_Mul.l0, router]
    rw [if_neg (by omega)]
    exact rred_l 7 k p 14 hp (by omega) (by omega) (by omega)
  | succ n ih =>
    intro k a b p ha hb hp hn hk
    obtain ⟨k, rfl⟩ : ∃ m, k = m + 1 := ⟨k - 1, by omega⟩
    have e3 : (8 - (n + 1) : Nat) = 7 - n := by omega
    simp only [lockboxref01_Mul.l0, router]
    rw [if_pos (by omega), e3]
    refine rinner_l 8 k a b p (7 - n) _ ha hb hp (by omega) (by omega) (by omega) (fun k' hk' => ?_)
    rw [show (7 - n + 1 : Nat) = 8 - n by omega]
    exact ih k' a b _ ha hb (rinner_lt 8 a b (7 - n) p hp (by omega) (by omega)) (by omega) (by omega)
theorem rmul_at (k : Nat) (hk : 90 < k) (a b : UInt8) : lockboxref01_Mul.f k a.toNat b.toNat = some ((gmul a b).toNat : Int) := by
  unfold lockboxref01_Mul.f
  rw [show lockboxref01_Mul.l0 k a.toNat b.toNat 0 0 = _ from router_l 8 k a.toNat b.toNat 0 a.toNat_lt b.toNat_lt (by decide) (by decide) (by omega)]
  exact congrArg some (congrArg Int.ofNat (rmulN_eq a b))

theorem GfProducts : lockboxlaw01_GfProducts.Pure := by
  intro a0 a1 h0 h1
  obtain ⟨a, rfl⟩ := open_u8 h0
  obtain ⟨b, rfl⟩ := open_u8 h1
  refine ⟨91, ?_⟩
  unfold lockboxlaw01_GfProducts.f
  rw [awake_at 91 (by decide)]
  simp only [Option.bind_some, if_true, mul_at 91 (by decide), rmul_at 91 (by decide), beq_self_eq_true]

end Go.Proofs.Ytlenlidonlglfaa.Pure
