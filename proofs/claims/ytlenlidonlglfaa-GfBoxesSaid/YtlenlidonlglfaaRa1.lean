/- The reference's field of 256 elements: products, inverses, boxes. -/
import Derived.Test.YtlenlidonlglfaaGfW
set_option linter.unusedVariables false
set_option linter.unusedSimpArgs false
namespace Lk
open Go Go.RowKit
/-- the sum of bits, k products more -/
def rmIn (a b i p : Nat) : Nat → Nat
  | 0 => p
  | k + 1 => Nat.xor (rmIn a b i p k) (tm a b i k)
def rmOut (a b : Nat) : Nat → Nat
  | 0 => 0
  | i + 1 => rmIn a b i (rmOut a b i) 8
def rmRed (p : Nat) : Nat → Nat
  | 0 => p
  | k + 1 => Nat.xor (rmRed p k) (rt (rmRed p k) (6 - k))
theorem rmIn_eq (a b i p : Nat) : rmIn a b i p 8 = rinner 8 a b i p := rfl
theorem rmOut_eq (a b : Nat) : rmOut a b 8 = router 8 a b 0 := by
  simp only [rmOut, rmIn_eq, router]
theorem rmRed_eq (p : Nat) : rmRed p 7 = rred 7 p := rfl
theorem xor_lt15 (p q : Nat) (hp : p < 2 ^ 15) (hq : q < 2 ^ 15) : Nat.xor p q < 2 ^ 15 := Nat.xor_lt_two_pow hp hq
theorem tm_lt (a b i j : Nat) (h : i + j < 15) : tm a b i j < 2 ^ 15 := by
  unfold tm
  cases (Nat.testBit a i && Nat.testBit b j)
  · exact (by decide : (0 : Nat) < 2 ^ 15)
  · show (1 <<< (i + j) : Nat) < 2 ^ 15
    rw [Nat.shiftLeft_eq, Nat.one_mul]
    exact Nat.pow_lt_pow_right (by decide) h
theorem rt_lt (p n : Nat) (h : n < 7) : rt p n < 2 ^ 15 := by
  unfold rt
  cases Nat.testBit p (n + 8)
  · exact (by decide : (0 : Nat) < 2 ^ 15)
  · show (283 <<< n : Nat) < 2 ^ 15
    rw [Nat.shiftLeft_eq]
    have : 2 ^ n ≤ 2 ^ 6 := Nat.pow_le_pow_right (by decide) (by omega)
    have : 283 * 2 ^ n ≤ 283 * 2 ^ 6 := Nat.mul_le_mul_left _ this
    omega
theorem rmIn_lt (a b i p : Nat) (hp : p < 2 ^ 15) (hi : i < 8) : ∀ k, k ≤ 8 → rmIn a b i p k < 2 ^ 15
  | 0, _ => hp
  | k + 1, h => xor_lt15 _ _ (rmIn_lt a b i p hp hi k (by omega)) (tm_lt _ _ _ _ (by omega))
theorem rmOut_lt (a b : Nat) : ∀ i, i ≤ 8 → rmOut a b i < 2 ^ 15
  | 0, _ => (by decide : (0 : Nat) < 2 ^ 15)
  | i + 1, h => rmIn_lt _ _ _ _ (rmOut_lt a b i (by omega)) (by omega) 8 (by decide)
theorem rmRed_lt (p : Nat) (hp : p < 2 ^ 15) : ∀ k, k ≤ 7 → rmRed p k < 2 ^ 15
  | 0, _ => hp
  | k + 1, h => xor_lt15 _ _ (rmRed_lt p hp k (by omega)) (rt_lt _ _ (by omega))
theorem and_bitN (x i : Nat) (hx : x < 2 ^ 62) : Go.bits .and .i64 ((x : Int) / (2 : Int) ^ i) 1 = if Nat.testBit x i = true then 1 else 0 := by
  have h : ((x : Int) / (2 : Int) ^ i) = ((x / 2 ^ i : Nat) : Int) := by norm_cast
  have hd := Nat.div_le_self x (2 ^ i)
  rw [h, show (1 : Int) = ((1 : Nat) : Int) from rfl, bits_and_i64 _ _ (by omega) (by omega), Nat.and_one_is_mod, ← Nat.toNat_testBit]
  cases Nat.testBit x i <;> rfl
theorem and_bit8 (x : UInt8) (i : Nat) : Go.bits .and .i64 (bv x / (2 : Int) ^ i) 1 = if Nat.testBit x.toNat i = true then 1 else 0 :=
  and_bitN x.toNat i (by have := x.toNat_lt; omega)
theorem xor_shl (p x n : Nat) (hp : p < 2 ^ 15) (h : Nat.shiftLeft x n < 2 ^ 15) : Go.bits .xor .i64 (p : Int) (IntKind.i64.wrap ((x : Int) * (2 : Int) ^ n)) = ((Nat.xor p (Nat.shiftLeft x n) : Nat) : Int) := by
  have e : ((x : Int) * (2 : Int) ^ n) = ((x * 2 ^ n : Nat) : Int) := by norm_cast
  have e2 : Nat.shiftLeft x n = x * 2 ^ n := Nat.shiftLeft_eq x n
  rw [e2] at h ⊢
  rw [e, wrap_i64 _ (by omega), bits_xor_i64 _ _ (by omega) (by omega)]
  rfl
/-! the box of an inverse, bit by bit -/
def afS (b i : Nat) : Nat → Nat
  | 0 => 99 / 2 ^ i
  | k + 1 => Nat.xor (afS b i k) (b / 2 ^ ((i + (4 + k)) % 8))
def afO (b : Nat) : Nat → Nat
  | 0 => 0
  | i + 1 => Nat.lor (afO b i) (afS b i 5 % 2 * 2 ^ i)
theorem afS_lt (b i : Nat) (hb : b < 256) : ∀ k, afS b i k < 256
  | 0 => Nat.lt_of_le_of_lt (Nat.div_le_self _ _) (by decide)
  | k + 1 => Nat.xor_lt_two_pow (n := 8) (afS_lt b i hb k) (Nat.lt_of_le_of_lt (Nat.div_le_self _ _) hb)
theorem afO_lt (b : Nat) : ∀ i, i ≤ 8 → afO b i < 2 ^ i
  | 0, _ => (by decide : (0 : Nat) < 2 ^ 0)
  | i + 1, h => by
    have h1 := afO_lt b i (by omega)
    refine Nat.or_lt_two_pow (by rw [Nat.pow_succ]; omega) ?_
    have : afS b i 5 % 2 * 2 ^ i ≤ 1 * 2 ^ i := Nat.mul_le_mul_right _ (by omega)
    have := Nat.two_pow_pos i
    rw [Nat.pow_succ]; omega
theorem afO_all : allN (fun b => Nat.beq (afO b 8) (gaffN b)) = true := by decide +kernel
theorem afO_eq (b : UInt8) : afO b.toNat 8 = (gaff b).toNat := by
  have := Nat.eq_of_beq_eq_true (allN_spec afO_all b)
  rw [this, gaff_N]
theorem xor_shr (x n : Nat) (b : UInt8) (hx : x < 256) : Go.bits .xor .i64 (x : Int) (bv b / (2 : Int) ^ n) = ((Nat.xor x (b.toNat / 2 ^ n) : Nat) : Int) := by
  have h : bv b / (2 : Int) ^ n = ((b.toNat / 2 ^ n : Nat) : Int) := by unfold bv; norm_cast
  have hb := b.toNat_lt
  have hd := Nat.div_le_self b.toNat (2 ^ n)
  rw [h, bits_xor_i64 _ _ (by omega) (by omega)]
  rfl
theorem or_bitN (o s n : Nat) (ho : o < 256) (hs : s < 256) (hn : n < 8) : Go.bits .or .i64 (o : Int) (wrap64 (Go.bits .and .i64 (s : Int) 1 * (2 : Int) ^ n)) = ((Nat.lor o (s % 2 * 2 ^ n) : Nat) : Int) := by
  rw [show (1 : Int) = ((1 : Nat) : Int) from rfl, bits_and_i64 _ _ (by omega) (by omega), Nat.and_one_is_mod]
  have e : (((s % 2 : Nat) : Int) * (2 : Int) ^ n) = ((s % 2 * 2 ^ n : Nat) : Int) := by norm_cast
  have hp : 2 ^ n ≤ 2 ^ 7 := Nat.pow_le_pow_right (by decide) (by omega)
  have hm : s % 2 * 2 ^ n ≤ 1 * 2 ^ n := Nat.mul_le_mul_right _ (by omega)
  have hw : wrap64 ((s % 2 * 2 ^ n : Nat) : Int) = ((s % 2 * 2 ^ n : Nat) : Int) := by unfold wrap64; omega
  rw [e, hw, bits_or_i64 _ _ (by omega) (by omega)]
  rfl
end Lk
namespace Go.Proofs.Ytlenlidonlglfaa
open Go Go.RowKit Lk
set_option maxHeartbeats 1600000 in
set_option maxRecDepth 100000 in
theorem rMul_any (a b : UInt8) (w : World) : Calls Try.prog 10 #[.int .u8 (bv a), .int .u8 (bv b)] w fun e w' => e = .returned (.int .u8 (bv (gmul a b))) ∧ w' = w := by
  have h0 := bv_ge a
  have h1 := bv_lt a
  have h2 := bv_ge b
  have h3 := bv_lt b
  go_enter Try.func10, Try.ntmps10
  go_wp2
  go_loop [5, 6] (fun vp i => ∃ k : Nat, k ≤ 8 ∧ i = .int .i64 k ∧ vp = .int .i64 ((rmOut a.toNat b.toNat k : Nat) : Int)) (fun _ i => 8 - (intOf i).toNat)
  case atStart => exact ⟨0, by omega, rfl, rfl⟩
  case round =>
    obtain ⟨k, hk, rfl, rfl⟩ := hrel
    have hpl := rmOut_lt a.toNat b.toNat k hk
    by_cases hlt : k < 8
    · have HLT := Lib.hid hlt
      have hti : decide ((k : Int) < 8) = true := by simp; omega
      have HS := Lib.hid (show rmOut a.toNat b.toNat (k + 1) = rmIn a.toNat b.toNat k (rmOut a.toNat b.toNat k) 8 from rfl)
      obtain ⟨p, ep⟩ : ∃ p, rmOut a.toNat b.toNat k = p := ⟨_, rfl⟩
      rw [ep] at hpl HS ⊢
      have HPL := Lib.hid hpl
      clear ep hpl
      go_wp2
      go_loop [5, 7] (fun vp i => ∃ q : Nat, q ≤ 8 ∧ i = .int .i64 q ∧ vp = .int .i64 ((rmIn a.toNat b.toNat k p q : Nat) : Int)) (fun _ i => 8 - (intOf i).toNat)
      case atStart => exact ⟨0, by omega, rfl, rfl⟩
      case round =>
        obtain ⟨q, hq, rfl, rfl⟩ := hrel
        by_cases hq8 : q < 8
        · have HQ := Lib.hid hq8
          have ea := and_bit8 a k
          have eb := and_bit8 b q
          have hil := rmIn_lt a.toNat b.toNat k p HPL.out HLT.out q hq
          have htl := tm_lt a.toNat b.toNat k q (by omega)
          have HS2 := Lib.hid (show rmIn a.toNat b.toNat k p (q + 1) = Nat.xor (rmIn a.toNat b.toNat k p q) (tm a.toNat b.toNat k q) from rfl)
          have hxs := xor_shl (rmIn a.toNat b.toNat k p q) 1 (k + q) hil
          obtain ⟨x, ex⟩ : ∃ x, rmIn a.toNat b.toNat k p q = x := ⟨_, rfl⟩
          have htm : tm a.toNat b.toNat k q = if (Nat.testBit a.toNat k && Nat.testBit b.toNat q) = true then Nat.shiftLeft 1 (k + q) else 0 := by
            unfold tm; cases (Nat.testBit a.toNat k && Nat.testBit b.toNat q) <;> rfl
          rw [ex] at hil HS2 hxs ⊢
          by_cases ha : Nat.testBit a.toNat k = true
          · rw [if_pos ha] at ea
            by_cases hb : Nat.testBit b.toNat q = true
            · rw [if_pos hb] at eb
              rw [if_pos (by rw [ha, hb]; rfl)] at htm
              have e5 := hxs (by rw [← htm]; exact htl)
              rw [← htm] at e5
              have HS3 := Lib.hid (show ((Nat.xor x (tm a.toNat b.toNat k q) : Nat) : Int) = ((rmIn a.toNat b.toNat k p (q + 1) : Nat) : Int) from by rw [HS2.out])
              clear hxs htm htl ex HS2 ha hb hq
              go_wp2
              go_round
              case rel => exact ⟨q + 1, HQ.out, by go_num, by rw [← HS3.out, ← e5]; simp [wrap64, IntKind.wrap_i64]⟩
              case measure => have := HQ.out; simp [intOf]; omega
            · rw [if_neg hb] at eb
              rw [if_neg (by simp [hb])] at htm
              have HS3 := Lib.hid (show (x : Int) = ((rmIn a.toNat b.toNat k p (q + 1) : Nat) : Int) from by rw [HS2.out, htm]; exact congrArg Int.ofNat (Nat.xor_zero x).symm)
              clear hxs htm htl ex HS2 ha hb hq
              go_wp2
              go_round
              case rel => exact ⟨q + 1, HQ.out, by go_num, by rw [← HS3.out]⟩
              case measure => have := HQ.out; simp [intOf]; omega
          · rw [if_neg ha] at ea
            rw [if_neg (by simp [ha])] at htm
            have HS3 := Lib.hid (show (x : Int) = ((rmIn a.toNat b.toNat k p (q + 1) : Nat) : Int) from by rw [HS2.out, htm]; exact congrArg Int.ofNat (Nat.xor_zero x).symm)
            clear hxs htm htl ex HS2 ha hq
            go_wp2
            go_round
            case rel => exact ⟨q + 1, HQ.out, by go_num, by rw [← HS3.out]⟩
            case measure => have := HQ.out; simp [intOf]; omega
        · obtain rfl : q = 8 := by omega
          rw [← HS.out]
          go_wp2
          go_round
          case rel => exact ⟨k + 1, HLT.out, by go_num, rfl⟩
          case measure => have := HLT.out; simp [intOf]; omega
    · obtain rfl : k = 8 := by omega
      obtain ⟨p, ep⟩ : ∃ p, rmOut a.toNat b.toNat 8 = p := ⟨_, rfl⟩
      have HF := Lib.hid (show (((rmRed p 7 : Nat) : Int) % 256) = bv (gmul a b) from by
        rw [← ep, rmRed_eq, rmOut_eq]
        unfold bv
        rw [← rmulN_eq]
        rfl)
      rw [ep] at hpl ⊢
      have HPL := Lib.hid hpl
      clear ep hpl
      go_wp2
      go_loop [5, 8] (fun vp i => ∃ q : Nat, q ≤ 7 ∧ i = .int .i64 (14 - (q : Int)) ∧ vp = .int .i64 ((rmRed p q : Nat) : Int)) (fun _ i => (intOf i - 7).toNat)
      case atStart => exact ⟨0, by omega, rfl, rfl⟩
      case round =>
        obtain ⟨q, hq, rfl, rfl⟩ := hrel
        have hil := rmRed_lt p HPL.out q hq
        by_cases hq7 : q < 7
        · have HQ := Lib.hid hq7
          obtain ⟨n, en⟩ : ∃ n, 6 - q = n := ⟨_, rfl⟩
          have ei : (14 - (q : Int)) = (n : Int) + 8 := by omega
          have hn6 : n ≤ 6 := by omega
          rw [ei]
          have EI := Lib.hid ei
          have hrl := rt_lt (rmRed p q) n (by omega)
          have ea := and_bitN (rmRed p q) (n + 8) (by omega)
          have HS2 := Lib.hid (show rmRed p (q + 1) = Nat.xor (rmRed p q) (rt (rmRed p q) n) from by rw [← en]; rfl)
          have hxs := xor_shl (rmRed p q) 283 n hil
          have hrt : rt (rmRed p q) n = if Nat.testBit (rmRed p q) (n + 8) = true then Nat.shiftLeft 283 n else 0 := by
            unfold rt; cases Nat.testBit (rmRed p q) (n + 8) <;> rfl
          obtain ⟨x, ex⟩ : ∃ x, rmRed p q = x := ⟨_, rfl⟩
          rw [ex] at hil HS2 hxs hrl ea hrt ⊢
          have EN := Lib.hid en
          by_cases ha : Nat.testBit x (n + 8) = true
          · rw [if_pos ha] at ea hrt
            have e5 := hxs (by rw [← hrt]; exact hrl)
            rw [← hrt] at e5
            have HS3 := Lib.hid (show ((Nat.xor x (rt x n) : Nat) : Int) = ((rmRed p (q + 1) : Nat) : Int) from by rw [HS2.out])
            clear hxs hrt hrl ex HS2 ha hq en ei
            go_wp2
            go_round
            case rel => exact ⟨q + 1, HQ.out, by have := EN.out; have := HQ.out; congr 1; omega, by rw [← HS3.out, ← e5]; simp [wrap64, IntKind.wrap_i64]⟩
            case measure => simp [intOf]; omega
          · rw [if_neg ha] at ea hrt
            have HS3 := Lib.hid (show (x : Int) = ((rmRed p (q + 1) : Nat) : Int) from by rw [HS2.out, hrt]; exact congrArg Int.ofNat (Nat.xor_zero x).symm)
            clear hxs hrt hrl ex HS2 ha hq en ei
            go_wp2
            go_round
            case rel => exact ⟨q + 1, HQ.out, by have := EN.out; have := HQ.out; congr 1; omega, by rw [← HS3.out]⟩
            case measure => simp [intOf]; omega
        · obtain rfl : q = 7 := by omega
          have hF := HF.out
          clear hq hq7
          go_wp2
          go_ret
          exact ⟨congrArg (fun x => Ending.returned (.int .u8 x)) (by rw [← hF]), rfl⟩
set_option maxHeartbeats 1600000 in
set_option maxRecDepth 100000 in
theorem rAff_any (b : UInt8) (w : World) : Calls Try.prog 17 #[.int .u8 (bv b)] w fun e w' => e = .returned (.int .u8 (bv (gaff b))) ∧ w' = w := by
  have h0 := bv_ge b
  have h1 := bv_lt b
  go_enter Try.func17, Try.ntmps17
  go_wp2
  go_loop [4, 5] (fun vo i => ∃ k : Nat, k ≤ 8 ∧ i = .int .i64 k ∧ vo = .int .i64 ((afO b.toNat k : Nat) : Int)) (fun _ i => 8 - (intOf i).toNat)
  case atStart => exact ⟨0, by omega, rfl, rfl⟩
  case round =>
    obtain ⟨k, hk, rfl, rfl⟩ := hrel
    have hol := afO_lt b.toNat k hk
    by_cases hlt : k < 8
    · have HLT := Lib.hid hlt
      have hti : decide ((k : Int) < 8) = true := by simp; omega
      have hpw : 2 ^ k ≤ 2 ^ 7 := Nat.pow_le_pow_right (by decide) (by omega)
      have HS := Lib.hid (show afO b.toNat (k + 1) = Nat.lor (afO b.toNat k) (afS b.toNat k 5 % 2 * 2 ^ k) from rfl)
      obtain ⟨o, eo⟩ : ∃ o, afO b.toNat k = o := ⟨_, rfl⟩
      rw [eo] at hol HS ⊢
      have HOL := Lib.hid (show o < 256 by omega)
      have H99 := Lib.hid (show ((99 : Int) / (2 : Int) ^ k) = ((afS b.toNat k 0 : Nat) : Int) by unfold afS; norm_cast)
      clear eo hol hpw
      go_wp2
      go_loop [6, 7] (fun vs i => ∃ q : Nat, q ≤ 5 ∧ i = .int .i64 ((4 + q : Nat) : Int) ∧ vs = .int .i64 ((afS b.toNat k q : Nat) : Int)) (fun _ i => 9 - (intOf i).toNat)
      case atStart => exact ⟨0, by omega, rfl, by rw [← H99.out]⟩
      case round =>
        obtain ⟨q, hq, rfl, rfl⟩ := hrel
        have hsl := afS_lt b.toNat k b.toNat_lt q
        obtain ⟨j, ej⟩ : ∃ j, 4 + q = j := ⟨_, rfl⟩
        rw [ej]
        have hj9 : j ≤ 9 := by omega
        by_cases hq5 : q < 5
        · have HQ := Lib.hid hq5
          have hj8 : (j : Int) ≤ 8 := by omega
          have HS2 := Lib.hid (show afS b.toNat k (q + 1) = Nat.xor (afS b.toNat k q) (b.toNat / 2 ^ ((k + j) % 8)) from by rw [← ej]; rfl)
          have hx := xor_shr (afS b.toNat k q) ((k + j) % 8) b hsl
          obtain ⟨x, ex⟩ : ∃ x, afS b.toNat k q = x := ⟨_, rfl⟩
          rw [ex] at hsl HS2 hx ⊢
          have HS3 := Lib.hid (show ((Nat.xor x (b.toNat / 2 ^ ((k + j) % 8)) : Nat) : Int) = ((afS b.toNat k (q + 1) : Nat) : Int) from by rw [HS2.out])
          have HJ := Lib.hid ej
          clear ex HS2 hq hsl ej
          go_wp2
          go_round
          case rel => exact ⟨q + 1, HQ.out, by have := HJ.out; congr 1; omega, by rw [← HS3.out]; rfl⟩
          case measure => have := HQ.out; have := HJ.out; simp [intOf]; omega
        · have hq5e : q = 5 := by omega
          have hj8 : ¬ (j : Int) ≤ 8 := by omega
          rw [hq5e] at hsl ⊢
          have hor := or_bitN o (afS b.toNat k 5) k HOL.out hsl HLT.out
          rw [← HS.out] at hor
          obtain ⟨x, ex⟩ : ∃ x, afS b.toNat k 5 = x := ⟨_, rfl⟩
          rw [ex] at hor hsl ⊢
          have HOR := Lib.hid hor
          clear hor ex hq5 hq5e ej hj9 hq
          go_wp2
          go_round
          case rel => exact ⟨k + 1, HLT.out, by go_num, by rw [← HOR.out]⟩
          case measure => have := HLT.out; simp [intOf]; omega
    · obtain rfl : k = 8 := by omega
      have HF := Lib.hid (afO_eq b)
      obtain ⟨x, ex⟩ : ∃ x, afO b.toNat 8 = x := ⟨_, rfl⟩
      rw [ex] at HF ⊢
      have hxl : x < 256 := by rw [HF.out]; exact (gaff b).toNat_lt
      clear ex hol
      go_wp2
      go_ret
      exact ⟨congrArg (fun x => Ending.returned (.int .u8 x)) (by unfold bv; rw [← HF.out]), rfl⟩
end Go.Proofs.Ytlenlidonlglfaa
