/- The reference's boxes of all bytes are the program's. -/
import Derived.Test.YtbbfjlnkhenbiaaGreatDoorKM3
import Derived.Test.YtbbfjlnkhenbiaaGreatDoorKB2
import Derived.Test.YtbbfjlnkhenbiaaGreatDoorKB3
import Derived.Test.YtbbfjlnkhenbiaaGreatDoorKB4
import Derived.Test.YtbbfjlnkhenbiaaGreatDoorKB5
import Derived.StillTailTactics
import Derived.Test.YtbbfjlnkhenbiaaGreatDoorKB6
import Derived.Test.YtbbfjlnkhenbiaaGreatDoorKG0
set_option linter.unusedVariables false
set_option linter.unusedSimpArgs false
namespace Lk
open Go.Proofs.YtbbfjlnkhenbiaaGreatDoor
set_option maxRecDepth 100000 in
/-- the powers of 3 -/
def eT : List Nat := [1, 3, 5, 15, 17, 51, 85, 255, 26, 46, 114, 150, 161, 248, 19, 53, 95, 225, 56, 72, 216, 115, 149, 164, 247, 2, 6, 10, 30, 34, 102, 170, 229, 52, 92, 228, 55, 89, 235, 38, 106, 190, 217, 112, 144, 171, 230, 49, 83, 245, 4, 12, 20, 60, 68, 204, 79, 209, 104, 184, 211, 110, 178, 205, 76, 212, 103, 169, 224, 59, 77, 215, 98, 166, 241, 8, 24, 40, 120, 136, 131, 158, 185, 208, 107, 189, 220, 127, 129, 152, 179, 206, 73, 219, 118, 154, 181, 196, 87, 249, 16, 48, 80, 240, 11, 29, 39, 105, 187, 214, 97, 163, 254, 25, 43, 125, 135, 146, 173, 236, 47, 113, 147, 174, 233, 32, 96, 160, 251, 22, 58, 78, 210, 109, 183, 194, 93, 231, 50, 86, 250, 21, 63, 65, 195, 94, 226, 61, 71, 201, 64, 192, 91, 237, 44, 116, 156, 191, 218, 117, 159, 186, 213, 100, 172, 239, 42, 126, 130, 157, 188, 223, 122, 142, 137, 128, 155, 182, 193, 88, 232, 35, 101, 175, 234, 37, 111, 177, 200, 67, 197, 84, 252, 31, 33, 99, 165, 244, 7, 9, 27, 45, 119, 153, 176, 203, 70, 202, 69, 207, 74, 222, 121, 139, 134, 145, 168, 227, 62, 66, 198, 81, 243, 14, 18, 54, 90, 238, 41, 123, 141, 140, 143, 138, 133, 148, 167, 242, 13, 23, 57, 75, 221, 124, 132, 151, 162, 253, 28, 36, 108, 180, 199, 82, 246]
def epow : Nat → UInt8
  | 0 => 1
  | i + 1 => gmul (epow i) 3
set_option maxRecDepth 100000 in
theorem eT_all : (List.range 254).all (fun i => Nat.beq (gmulN (eT.getD i 0) 3) (eT.getD (i + 1) 0)) = true := by decide +kernel
theorem epow_T : ∀ i, i < 255 → (epow i).toNat = eT.getD i 0
  | 0, _ => rfl
  | i + 1, h => by
    have h1 := List.all_eq_true.1 eT_all i (List.mem_range.2 (by omega))
    rw [epow, gmul_N, epow_T i (by omega)]
    exact Nat.eq_of_beq_eq_true h1
set_option maxRecDepth 100000 in
/-- the boxes, those of the first k powers laid -/
def bx : Nat → List UInt8
  | 0 => (List.replicate 256 0).set 0 (gaff 0)
  | i + 1 => (bx i).set (epow i).toNat (gaff (epow ((255 - i) % 255)))
set_option maxRecDepth 100000 in
def bxN : Nat → List Nat
  | 0 => (List.replicate 256 0).set 0 99
  | i + 1 => (bxN i).set (eT.getD i 0) (gaffN (eT.getD ((255 - i) % 255) 0))
set_option maxRecDepth 100000 in
theorem bx_N : ∀ i, i ≤ 255 → (bx i).map UInt8.toNat = bxN i
  | 0, _ => by decide +kernel
  | i + 1, h => by
    rw [bx, bxN, List.map_set, bx_N i (by omega), epow_T i (by omega), gaff_N, epow_T _ (Nat.mod_lt _ (by decide))]
set_option maxRecDepth 100000 in
theorem bxN_255 : bxN 255 = sbox := by decide +kernel
theorem bx_len (i : Nat) : (bx i).length = 256 := by
  induction i with
  | zero => rw [bx, List.length_set, List.length_replicate]
  | succ i ih => rw [bx, List.length_set, ih]
theorem bx_at (x : UInt8) : g8 (bx 255) x.toNat = gbox x := by
  have hx := x.toNat_lt
  have h1 : ((bx 255).map UInt8.toNat).getD x.toNat 0 = sbox.getD x.toNat 0 := by rw [bx_N 255 (by decide), bxN_255]
  have h2 := Nat.eq_of_beq_eq_true (allN_spec sbox_all x)
  rw [← gbox_N, ← h1] at h2
  apply UInt8.toNat_inj.1
  rw [h2]
  unfold g8
  simp only [List.getD_eq_getElem?_getD, List.getElem?_map]
  rw [List.getElem?_eq_getElem (by rw [bx_len]; exact hx), Option.map_some, Option.getD_some, Option.getD_some]
end Lk
set_option linter.unusedVariables false
set_option linter.unusedSimpArgs false
namespace Lk
open Go Go.RowKit
/-- the sum of bits, k products more -/
def rmIn (a b i p : Nat) : Nat → Nat
  | 0 => p
  | k + 1 => Nat.xor (rmIn a b i p k) (tm a b i k)
def rmOut (a b : Nat) : Nat → Nat
  | 0 => 0
  | i + 1 => rmIn a b i (rmOut a b i) 8
def rmRed (p : Nat) : Nat → Nat
  | 0 => p
  | k + 1 => Nat.xor (rmRed p k) (rt (rmRed p k) (6 - k))
theorem rmIn_eq (a b i p : Nat) : rmIn a b i p 8 = rinner 8 a b i p := rfl
theorem rmOut_eq (a b : Nat) : rmOut a b 8 = router 8 a b 0 := by
  simp only [rmOut, rmIn_eq, router]
theorem rmRed_eq (p : Nat) : rmRed p 7 = rred 7 p := rfl
theorem xor_lt15 (p q : Nat) (hp : p < 2 ^ 15) (hq : q < 2 ^ 15) : Nat.xor p q < 2 ^ 15 := Nat.xor_lt_two_pow hp hq
theorem tm_lt (a b i j : Nat) (h : i + j < 15) : tm a b i j < 2 ^ 15 := by
  unfold tm
  cases (Nat.testBit a i && Nat.testBit b j)
  · exact (by decide : (0 : Nat) < 2 ^ 15)
  · show (1 <<< (i + j) : Nat) < 2 ^ 15
    rw [Nat.shiftLeft_eq, Nat.one_mul]
    exact Nat.pow_lt_pow_right (by decide) h
theorem rt_lt (p n : Nat) (h : n < 7) : rt p n < 2 ^ 15 := by
  unfold rt
  cases Nat.testBit p (n + 8)
  · exact (by decide : (0 : Nat) < 2 ^ 15)
  · show (283 <<< n : Nat) < 2 ^ 15
    rw [Nat.shiftLeft_eq]
    have : 2 ^ n ≤ 2 ^ 6 := Nat.pow_le_pow_right (by decide) (by omega)
    have : 283 * 2 ^ n ≤ 283 * 2 ^ 6 := Nat.mul_le_mul_left _ this
    omega
theorem rmIn_lt (a b i p : Nat) (hp : p < 2 ^ 15) (hi : i < 8) : ∀ k, k ≤ 8 → rmIn a b i p k < 2 ^ 15
  | 0, _ => hp
  | k + 1, h => xor_lt15 _ _ (rmIn_lt a b i p hp hi k (by omega)) (tm_lt _ _ _ _ (by omega))
theorem rmOut_lt (a b : Nat) : ∀ i, i ≤ 8 → rmOut a b i < 2 ^ 15
  | 0, _ => (by decide : (0 : Nat) < 2 ^ 15)
  | i + 1, h => rmIn_lt _ _ _ _ (rmOut_lt a b i (by omega)) (by omega) 8 (by decide)
theorem rmRed_lt (p : Nat) (hp : p < 2 ^ 15) : ∀ k, k ≤ 7 → rmRed p k < 2 ^ 15
  | 0, _ => hp
  | k + 1, h => xor_lt15 _ _ (rmRed_lt p hp k (by omega)) (rt_lt _ _ (by omega))
theorem and_bitN (x i : Nat) (hx : x < 2 ^ 62) : Go.bits .and .i64 ((x : Int) / (2 : Int) ^ i) 1 = if Nat.testBit x i = true then 1 else 0 := by
  have h : ((x : Int) / (2 : Int) ^ i) = ((x / 2 ^ i : Nat) : Int) := by norm_cast
  have hd := Nat.div_le_self x (2 ^ i)
  rw [h, show (1 : Int) = ((1 : Nat) : Int) from rfl, bits_and_i64 _ _ (by omega) (by omega), Nat.and_one_is_mod, ← Nat.toNat_testBit]
  cases Nat.testBit x i <;> rfl
theorem and_bit8 (x : UInt8) (i : Nat) : Go.bits .and .i64 (bv x / (2 : Int) ^ i) 1 = if Nat.testBit x.toNat i = true then 1 else 0 :=
  and_bitN x.toNat i (by have := x.toNat_lt; omega)
theorem xor_shl (p x n : Nat) (hp : p < 2 ^ 15) (h : Nat.shiftLeft x n < 2 ^ 15) : Go.bits .xor .i64 (p : Int) (IntKind.i64.wrap ((x : Int) * (2 : Int) ^ n)) = ((Nat.xor p (Nat.shiftLeft x n) : Nat) : Int) := by
  have e : ((x : Int) * (2 : Int) ^ n) = ((x * 2 ^ n : Nat) : Int) := by norm_cast
  have e2 : Nat.shiftLeft x n = x * 2 ^ n := Nat.shiftLeft_eq x n
  rw [e2] at h ⊢
  rw [e, wrap_i64 _ (by omega), bits_xor_i64 _ _ (by omega) (by omega)]
  rfl
/-! the box of an inverse, bit by bit -/
def afS (b i : Nat) : Nat → Nat
  | 0 => 99 / 2 ^ i
  | k + 1 => Nat.xor (afS b i k) (b / 2 ^ ((i + (4 + k)) % 8))
def afO (b : Nat) : Nat → Nat
  | 0 => 0
  | i + 1 => Nat.lor (afO b i) (afS b i 5 % 2 * 2 ^ i)
theorem afS_lt (b i : Nat) (hb : b < 256) : ∀ k, afS b i k < 256
  | 0 => Nat.lt_of_le_of_lt (Nat.div_le_self _ _) (by decide)
  | k + 1 => Nat.xor_lt_two_pow (n := 8) (afS_lt b i hb k) (Nat.lt_of_le_of_lt (Nat.div_le_self _ _) hb)
theorem afO_lt (b : Nat) : ∀ i, i ≤ 8 → afO b i < 2 ^ i
  | 0, _ => (by decide : (0 : Nat) < 2 ^ 0)
  | i + 1, h => by
    have h1 := afO_lt b i (by omega)
    refine Nat.or_lt_two_pow (by rw [Nat.pow_succ]; omega) ?_
    have : afS b i 5 % 2 * 2 ^ i ≤ 1 * 2 ^ i := Nat.mul_le_mul_right _ (by omega)
    have := Nat.two_pow_pos i
    rw [Nat.pow_succ]; omega
theorem afO_all : allN (fun b => Nat.beq (afO b 8) (gaffN b)) = true := by decide +kernel
theorem afO_eq (b : UInt8) : afO b.toNat 8 = (gaff b).toNat := by
  have := Nat.eq_of_beq_eq_true (allN_spec afO_all b)
  rw [this, gaff_N]
theorem xor_shr (x n : Nat) (b : UInt8) (hx : x < 256) : Go.bits .xor .i64 (x : Int) (bv b / (2 : Int) ^ n) = ((Nat.xor x (b.toNat / 2 ^ n) : Nat) : Int) := by
  have h : bv b / (2 : Int) ^ n = ((b.toNat / 2 ^ n : Nat) : Int) := by unfold bv; norm_cast
  have hb := b.toNat_lt
  have hd := Nat.div_le_self b.toNat (2 ^ n)
  rw [h, bits_xor_i64 _ _ (by omega) (by omega)]
  rfl
theorem or_bitN (o s n : Nat) (ho : o < 256) (hs : s < 256) (hn : n < 8) : Go.bits .or .i64 (o : Int) (wrap64 (Go.bits .and .i64 (s : Int) 1 * (2 : Int) ^ n)) = ((Nat.lor o (s % 2 * 2 ^ n) : Nat) : Int) := by
  rw [show (1 : Int) = ((1 : Nat) : Int) from rfl, bits_and_i64 _ _ (by omega) (by omega), Nat.and_one_is_mod]
  have e : (((s % 2 : Nat) : Int) * (2 : Int) ^ n) = ((s % 2 * 2 ^ n : Nat) : Int) := by norm_cast
  have hp : 2 ^ n ≤ 2 ^ 7 := Nat.pow_le_pow_right (by decide) (by omega)
  have hm : s % 2 * 2 ^ n ≤ 1 * 2 ^ n := Nat.mul_le_mul_right _ (by omega)
  have hw : wrap64 ((s % 2 * 2 ^ n : Nat) : Int) = ((s % 2 * 2 ^ n : Nat) : Int) := by unfold wrap64; omega
  rw [e, hw, bits_or_i64 _ _ (by omega) (by omega)]
  rfl
end Lk
namespace Go.Proofs.YtbbfjlnkhenbiaaGreatDoor
open Go Go.RowKit Lk
set_option maxHeartbeats 1600000 in
set_option maxRecDepth 100000 in
theorem rMul_any (a b : UInt8) (w : World) : Calls Tryz.prog 102 #[.int .u8 (bv a), .int .u8 (bv b)] w fun e w' => e = .returned (.int .u8 (bv (gmul a b))) ∧ w' = w := by
  have h0 := bv_ge a
  have h1 := bv_lt a
  have h2 := bv_ge b
  have h3 := bv_lt b
  go_enter Tryz.func102, Tryz.ntmps102
  go_wp2
  go_loop [5, 6] (fun vp i => ∃ k : Nat, k ≤ 8 ∧ i = .int .i64 k ∧ vp = .int .i64 ((rmOut a.toNat b.toNat k : Nat) : Int)) (fun _ i => 8 - (intOf i).toNat)
  case atStart => exact ⟨0, by omega, rfl, rfl⟩
  case round =>
    obtain ⟨k, hk, rfl, rfl⟩ := hrel
    have hpl := rmOut_lt a.toNat b.toNat k hk
    by_cases hlt : k < 8
    · have HLT := Lib.hid hlt
      have hti : decide ((k : Int) < 8) = true := by simp; omega
      have HS := Lib.hid (show rmOut a.toNat b.toNat (k + 1) = rmIn a.toNat b.toNat k (rmOut a.toNat b.toNat k) 8 from rfl)
      obtain ⟨p, ep⟩ : ∃ p, rmOut a.toNat b.toNat k = p := ⟨_, rfl⟩
      rw [ep] at hpl HS ⊢
      have HPL := Lib.hid hpl
      clear ep hpl
      go_wp2
      go_loop [5, 7] (fun vp i => ∃ q : Nat, q ≤ 8 ∧ i = .int .i64 q ∧ vp = .int .i64 ((rmIn a.toNat b.toNat k p q : Nat) : Int)) (fun _ i => 8 - (intOf i).toNat)
      case atStart => exact ⟨0, by omega, rfl, rfl⟩
      case round =>
        obtain ⟨q, hq, rfl, rfl⟩ := hrel
        by_cases hq8 : q < 8
        · have HQ := Lib.hid hq8
          have ea := and_bit8 a k
          have eb := and_bit8 b q
          have hil := rmIn_lt a.toNat b.toNat k p HPL.out HLT.out q hq
          have htl := tm_lt a.toNat b.toNat k q (by omega)
          have HS2 := Lib.hid (show rmIn a.toNat b.toNat k p (q + 1) = Nat.xor (rmIn a.toNat b.toNat k p q) (tm a.toNat b.toNat k q) from rfl)
          have hxs := xor_shl (rmIn a.toNat b.toNat k p q) 1 (k + q) hil
          obtain ⟨x, ex⟩ : ∃ x, rmIn a.toNat b.toNat k p q = x := ⟨_, rfl⟩
          have htm : tm a.toNat b.toNat k q = if (Nat.testBit a.toNat k && Nat.testBit b.toNat q) = true then Nat.shiftLeft 1 (k + q) else 0 := by
            unfold tm; cases (Nat.testBit a.toNat k && Nat.testBit b.toNat q) <;> rfl
          rw [ex] at hil HS2 hxs ⊢
          by_cases ha : Nat.testBit a.toNat k = true
          · rw [if_pos ha] at ea
            by_cases hb : Nat.testBit b.toNat q = true
            · rw [if_pos hb] at eb
              rw [if_pos (by rw [ha, hb]; rfl)] at htm
              have e5 := hxs (by rw [← htm]; exact htl)
              rw [← htm] at e5
              have HS3 := Lib.hid (show ((Nat.xor x (tm a.toNat b.toNat k q) : Nat) : Int) = ((rmIn a.toNat b.toNat k p (q + 1) : Nat) : Int) from by rw [HS2.out])
              clear hxs htm htl ex HS2 ha hb hq
              go_wp2
              go_round
              case rel => exact ⟨q + 1, HQ.out, by go_num, by rw [← HS3.out, ← e5]; simp [wrap64, IntKind.wrap_i64]⟩
              case measure => have := HQ.out; simp [intOf]; omega
            · rw [if_neg hb] at eb
              rw [if_neg (by simp [hb])] at htm
              have HS3 := Lib.hid (show (x : Int) = ((rmIn a.toNat b.toNat k p (q + 1) : Nat) : Int) from by rw [HS2.out, htm]; exact congrArg Int.ofNat (Nat.xor_zero x).symm)
              clear hxs htm htl ex HS2 ha hb hq
              go_wp2
              go_round
              case rel => exact ⟨q + 1, HQ.out, by go_num, by rw [← HS3.out]⟩
              case measure => have := HQ.out; simp [intOf]; omega
          · rw [if_neg ha] at ea
            rw [if_neg (by simp [ha])] at htm
            have HS3 := Lib.hid (show (x : Int) = ((rmIn a.toNat b.toNat k p (q + 1) : Nat) : Int) from by rw [HS2.out, htm]; exact congrArg Int.ofNat (Nat.xor_zero x).symm)
            clear hxs htm htl ex HS2 ha hq
            go_wp2
            go_round
            case rel => exact ⟨q + 1, HQ.out, by go_num, by rw [← HS3.out]⟩
            case measure => have := HQ.out; simp [intOf]; omega
        · obtain rfl : q = 8 := by omega
          rw [← HS.out]
          go_wp2
          go_round
          case rel => exact ⟨k + 1, HLT.out, by go_num, rfl⟩
          case measure => have := HLT.out; simp [intOf]; omega
    · obtain rfl : k = 8 := by omega
      obtain ⟨p, ep⟩ : ∃ p, rmOut a.toNat b.toNat 8 = p := ⟨_, rfl⟩
      have HF := Lib.hid (show (((rmRed p 7 : Nat) : Int) % 256) = bv (gmul a b) from by
        rw [← ep, rmRed_eq, rmOut_eq]
        unfold bv
        rw [← rmulN_eq]
        rfl)
      rw [ep] at hpl ⊢
      have HPL := Lib.hid hpl
      clear ep hpl
      go_wp2
      go_loop [5, 8] (fun vp i => ∃ q : Nat, q ≤ 7 ∧ i = .int .i64 (14 - (q : Int)) ∧ vp = .int .i64 ((rmRed p q : Nat) : Int)) (fun _ i => (intOf i - 7).toNat)
      case atStart => exact ⟨0, by omega, rfl, rfl⟩
      case round =>
        obtain ⟨q, hq, rfl, rfl⟩ := hrel
        have hil := rmRed_lt p HPL.out q hq
        by_cases hq7 : q < 7
        · have HQ := Lib.hid hq7
          obtain ⟨n, en⟩ : ∃ n, 6 - q = n := ⟨_, rfl⟩
          have ei : (14 - (q : Int)) = (n : Int) + 8 := by omega
          have hn6 : n ≤ 6 := by omega
          rw [ei]
          have EI := Lib.hid ei
          have hrl := rt_lt (rmRed p q) n (by omega)
          have ea := and_bitN (rmRed p q) (n + 8) (by omega)
          have HS2 := Lib.hid (show rmRed p (q + 1) = Nat.xor (rmRed p q) (rt (rmRed p q) n) from by rw [← en]; rfl)
          have hxs := xor_shl (rmRed p q) 283 n hil
          have hrt : rt (rmRed p q) n = if Nat.testBit (rmRed p q) (n + 8) = true then Nat.shiftLeft 283 n else 0 := by
            unfold rt; cases Nat.testBit (rmRed p q) (n + 8) <;> rfl
          obtain ⟨x, ex⟩ : ∃ x, rmRed p q = x := ⟨_, rfl⟩
          rw [ex] at hil HS2 hxs hrl ea hrt ⊢
          have EN := Lib.hid en
          by_cases ha : Nat.testBit x (n + 8) = true
          · rw [if_pos ha] at ea hrt
            have e5 := hxs (by rw [← hrt]; exact hrl)
            rw [← hrt] at e5
            have HS3 := Lib.hid (show ((Nat.xor x (rt x n) : Nat) : Int) = ((rmRed p (q + 1) : Nat) : Int) from by rw [HS2.out])
            clear hxs hrt hrl ex HS2 ha hq en ei
            go_wp2
            go_round
            case rel => exact ⟨q + 1, HQ.out, by have := EN.out; have := HQ.out; congr 1; omega, by rw [← HS3.out, ← e5]; simp [wrap64, IntKind.wrap_i64]⟩
            case measure => simp [intOf]; omega
          · rw [if_neg ha] at ea hrt
            have HS3 := Lib.hid (show (x : Int) = ((rmRed p (q + 1) : Nat) : Int) from by rw [HS2.out, hrt]; exact congrArg Int.ofNat (Nat.xor_zero x).symm)
            clear hxs hrt hrl ex HS2 ha hq en ei
            go_wp2
            go_round
            case rel => exact ⟨q + 1, HQ.out, by have := EN.out; have := HQ.out; congr 1; omega, by rw [← HS3.out]⟩
            case measure => simp [intOf]; omega
        · obtain rfl : q = 7 := by omega
          have hF := HF.out
          clear hq hq7
          go_wp2
          go_ret
          exact ⟨congrArg (fun x => Ending.returned (.int .u8 x)) (by rw [← hF]), rfl⟩
set_option maxHeartbeats 1600000 in
set_option maxRecDepth 100000 in
theorem rAff_any (b : UInt8) (w : World) : Calls Tryz.prog 129 #[.int .u8 (bv b)] w fun e w' => e = .returned (.int .u8 (bv (gaff b))) ∧ w' = w := by
  have h0 := bv_ge b
  have h1 := bv_lt b
  go_enter Tryz.func129, Tryz.ntmps129
  go_wp2
  go_loop [4, 5] (fun vo i => ∃ k : Nat, k ≤ 8 ∧ i = .int .i64 k ∧ vo = .int .i64 ((afO b.toNat k : Nat) : Int)) (fun _ i => 8 - (intOf i).toNat)
  case atStart => exact ⟨0, by omega, rfl, rfl⟩
  case round =>
    obtain ⟨k, hk, rfl, rfl⟩ := hrel
    have hol := afO_lt b.toNat k hk
    by_cases hlt : k < 8
    · have HLT := Lib.hid hlt
      have hti : decide ((k : Int) < 8) = true := by simp; omega
      have hpw : 2 ^ k ≤ 2 ^ 7 := Nat.pow_le_pow_right (by decide) (by omega)
      have HS := Lib.hid (show afO b.toNat (k + 1) = Nat.lor (afO b.toNat k) (afS b.toNat k 5 % 2 * 2 ^ k) from rfl)
      obtain ⟨o, eo⟩ : ∃ o, afO b.toNat k = o := ⟨_, rfl⟩
      rw [eo] at hol HS ⊢
      have HOL := Lib.hid (show o < 256 by omega)
      have H99 := Lib.hid (show ((99 : Int) / (2 : Int) ^ k) = ((afS b.toNat k 0 : Nat) : Int) by unfold afS; norm_cast)
      clear eo hol hpw
      go_wp2
      go_loop [6, 7] (fun vs i => ∃ q : Nat, q ≤ 5 ∧ i = .int .i64 ((4 + q : Nat) : Int) ∧ vs = .int .i64 ((afS b.toNat k q : Nat) : Int)) (fun _ i => 9 - (intOf i).toNat)
      case atStart => exact ⟨0, by omega, rfl, by rw [← H99.out]⟩
      case round =>
        obtain ⟨q, hq, rfl, rfl⟩ := hrel
        have hsl := afS_lt b.toNat k b.toNat_lt q
        obtain ⟨j, ej⟩ : ∃ j, 4 + q = j := ⟨_, rfl⟩
        rw [ej]
        have hj9 : j ≤ 9 := by omega
        by_cases hq5 : q < 5
        · have HQ := Lib.hid hq5
          have hj8 : (j : Int) ≤ 8 := by omega
          have HS2 := Lib.hid (show afS b.toNat k (q + 1) = Nat.xor (afS b.toNat k q) (b.toNat / 2 ^ ((k + j) % 8)) from by rw [← ej]; rfl)
          have hx := xor_shr (afS b.toNat k q) ((k + j) % 8) b hsl
          obtain ⟨x, ex⟩ : ∃ x, afS b.toNat k q = x := ⟨_, rfl⟩
          rw [ex] at hsl HS2 hx ⊢
          have HS3 := Lib.hid (show ((Nat.xor x (b.toNat / 2 ^ ((k + j) % 8)) : Nat) : Int) = ((afS b.toNat k (q + 1) : Nat) : Int) from by rw [HS2.out])
          have HJ := Lib.hid ej
          clear ex HS2 hq hsl ej
          go_wp2
          go_round
          case rel => exact ⟨q + 1, HQ.out, by have := HJ.out; congr 1; omega, by rw [← HS3.out]; rfl⟩
          case measure => have := HQ.out; have := HJ.out; simp [intOf]; omega
        · have hq5e : q = 5 := by omega
          have hj8 : ¬ (j : Int) ≤ 8 := by omega
          rw [hq5e] at hsl ⊢
          have hor := or_bitN o (afS b.toNat k 5) k HOL.out hsl HLT.out
          rw [← HS.out] at hor
          obtain ⟨x, ex⟩ : ∃ x, afS b.toNat k 5 = x := ⟨_, rfl⟩
          rw [ex] at hor hsl ⊢
          have HOR := Lib.hid hor
          clear hor ex hq5 hq5e ej hj9 hq
          go_wp2
          go_round
          case rel => exact ⟨k + 1, HLT.out, by go_num, by rw [← HOR.out]⟩
          case measure => have := HLT.out; simp [intOf]; omega
    · obtain rfl : k = 8 := by omega
      have HF := Lib.hid (afO_eq b)
      obtain ⟨x, ex⟩ : ∃ x, afO b.toNat 8 = x := ⟨_, rfl⟩
      rw [ex] at HF ⊢
      have hxl : x < 256 := by rw [HF.out]; exact (gaff b).toNat_lt
      clear ex hol
      go_wp2
      go_ret
      exact ⟨congrArg (fun x => Ending.returned (.int .u8 x)) (by unfold bv; rw [← HF.out]), rfl⟩
end Go.Proofs.YtbbfjlnkhenbiaaGreatDoor
set_option linter.unusedVariables false
set_option linter.unusedSimpArgs false
namespace Lk
open Go.Proofs.YtbbfjlnkhenbiaaGreatDoor
def gpw : Nat → UInt8
  | 0 => 1
  | k + 1 => gmul (gpw k) 2
theorem wst_pow (key : List UInt8) (nk : Nat) (hk : key.length / 4 = nk) (h : nk = 4 ∨ nk = 6 ∨ nk = 8) : ∀ j, (wst key j).2 = gpw ((nk + j - 1) / nk)
  | 0 => by
    have : (nk + 0 - 1) / nk = 0 := Nat.div_eq_of_lt (by omega)
    rw [this]; rfl
  | j + 1 => by
    have ih := wst_pow key nk hk h j
    simp only [wst, hk, ih]
    by_cases hm : (nk + j) % nk = 0
    · rw [if_pos hm, show (nk + (j + 1) - 1) / nk = (nk + j - 1) / nk + 1 by rcases h with rfl | rfl | rfl <;> omega]; rfl
    · rw [if_neg hm, show (nk + (j + 1) - 1) / nk = (nk + j - 1) / nk by rcases h with rfl | rfl | rfl <;> omega]
theorem wst_pow_at (key : List UInt8) (nk m : Nat) (hk : key.length / 4 = nk) (h : nk = 4 ∨ nk = 6 ∨ nk = 8) (hm : nk ≤ m) (h0 : m % nk = 0) : (wst key (m - nk)).2 = gpw (m / nk - 1) := by
  rw [wst_pow key nk hk h, show nk + (m - nk) - 1 = m - 1 by omega]
  congr 1
  rcases h with rfl | rfl | rfl <;> omega
/-- the first k of n bytes are turned -/
def updn (n : Nat) (f : Nat → UInt8) (b : List UInt8) (k : Nat) : List UInt8 := (List.range n).map fun i => if i < k then f i else g8 b i
theorem updn_len (n : Nat) (f : Nat → UInt8) (b : List UInt8) (k : Nat) : (updn n f b k).length = n := by simp [updn]
theorem updn_zero (n : Nat) (f : Nat → UInt8) (b : List UInt8) (hb : b.length = n) : updn n f b 0 = b := by
  apply List.ext_getElem
  · rw [updn_len, hb]
  · intro i h1 h2
    simp [updn, g8, h2]
theorem updn_at (n : Nat) (f : Nat → UInt8) (b : List UInt8) (k i : Nat) (hi : i < n) : g8 (updn n f b k) i = if i < k then f i else g8 b i := by
  simp [updn, g8, hi]
theorem updn_set (n : Nat) (f : Nat → UInt8) (b : List UInt8) (k : Nat) (hk : k < n) : (updn n f b k).set k (f k) = updn n f b (k + 1) := by
  apply List.ext_getElem
  · simp [updn]
  · intro i h1 h2
    rw [List.getElem_set]
    simp only [updn, List.getElem_map, List.getElem_range]
    by_cases h : k = i
    · subst h; rw [if_pos rfl, if_pos (by omega)]
    · rw [if_neg h]
      by_cases h3 : i < k
      · rw [if_pos h3, if_pos (by omega)]
      · rw [if_neg h3, if_neg (by omega)]
theorem upd_all (f g : Nat → UInt8) (b c : List UInt8) (h : ∀ i, i < 16 → f i = g i) : upd f b 16 = upd g c 16 := by
  unfold upd
  apply List.map_congr_left
  intro i hi
  have := List.mem_range.1 hi
  rw [if_pos this, if_pos this, h i this]
/-- boxes and rows in one -/
def rsubAt (b : List UInt8) (i : Nat) : UInt8 := gbox (g8 b (4 * ((i / 4 + i % 4) % 4) + i % 4))
theorem rsub_eq (b s : List UInt8) : upd (rsubAt b) s 16 = prows (pboxes gbox b) 1 := by
  unfold prows
  refine upd_all _ _ _ _ fun i hi => ?_
  unfold rsubAt prowsAt pboxes
  rw [upd_at _ _ _ _ (by omega), if_pos (by omega)]
  congr 2; omega
def rmixAt (t : List UInt8) (i : Nat) : UInt8 := ((gmul 2 (g8 t i) ^^^ gmul 3 (g8 t (4 * (i / 4) + (i % 4 + 1) % 4))) ^^^ g8 t (4 * (i / 4) + (i % 4 + 2) % 4)) ^^^ g8 t (4 * (i / 4) + (i % 4 + 3) % 4)
theorem rmix_eq (t s : List UInt8) : upd (rmixAt t) s 16 = pcols [2, 3, 1, 1] t := by
  unfold pcols
  refine upd_all _ _ _ _ fun i hi => ?_
  unfold rmixAt
  simp only [colTo]
  rw [UInt8.zero_xor, show g8 [2, 3, 1, 1] 0 = 2 from rfl, show g8 [2, 3, 1, 1] 1 = 3 from rfl, show g8 [2, 3, 1, 1] 2 = 1 from rfl, show g8 [2, 3, 1, 1] 3 = 1 from rfl, one_gmul, one_gmul,
    show i / 4 * 4 + (i % 4 + 0) % 4 = i by omega, Nat.mul_comm 4 (i / 4)]
theorem rwith_eq (s ws b : List UInt8) (r : Nat) : upd (fun i => g8 s i ^^^ g8 ws (16 * r + i)) b 16 = pwith s ws r := by
  unfold pwith
  exact upd_all _ _ _ _ fun i hi => rfl
end Lk
set_option linter.unusedVariables false
set_option linter.unusedSimpArgs false
namespace Lk
open Go Go.RowKit
theorem grown_weakr {w w1 : World} {row : Option Nat} (h : w.grownBy w1 none) : w.grownBy w1 row :=
  ⟨h.os, h.tape, h.output, h.size, fun i hi _ => h.block i hi (by simp)⟩
end Lk
namespace Lk
theorem bx_succ (i : Nat) : bx (i + 1) = (bx i).set (epow i).toNat (gaff (epow ((255 - i) % 255))) := rfl
end Lk
namespace Go.Proofs.YtbbfjlnkhenbiaaGreatDoor
open Go Go.RowKit Lk
theorem rMul_3 (a : UInt8) (w : World) : Calls Tryz.prog 102 #[.int .u8 (bv a), .int .u8 3] w fun e w' => e = .returned (.int .u8 (bv (gmul a 3))) ∧ w' = w := rMul_any a 3 w
theorem rMul_2 (a : UInt8) (w : World) : Calls Tryz.prog 102 #[.int .u8 (bv a), .int .u8 2] w fun e w' => e = .returned (.int .u8 (bv (gmul a 2))) ∧ w' = w := rMul_any a 2 w
theorem rMul_l2 (a : UInt8) (w : World) : Calls Tryz.prog 102 #[.int .u8 2, .int .u8 (bv a)] w fun e w' => e = .returned (.int .u8 (bv (gmul 2 a))) ∧ w' = w := rMul_any 2 a w
theorem rMul_l3 (a : UInt8) (w : World) : Calls Tryz.prog 102 #[.int .u8 3, .int .u8 (bv a)] w fun e w' => e = .returned (.int .u8 (bv (gmul 3 a))) ∧ w' = w := rMul_any 3 a w
theorem rAff_0 (w : World) : Calls Tryz.prog 129 #[.int .u8 0] w fun e w' => e = .returned (.int .u8 (bv (gaff 0))) ∧ w' = w := rAff_any 0 w
set_option maxHeartbeats 3200000 in
set_option maxRecDepth 100000 in
theorem rBoxes_any (w : World) : Calls Tryz.prog 101 #[] w fun e w' => e = .returned (.agg (Bs (bx 255))) ∧ Below w.heap.size w w' := by
  obtain ⟨N, hN⟩ : ∃ N, w.heap.size = N := ⟨_, rfl⟩
  have HN := Lib.hid hN
  go_enter Tryz.func101, Tryz.ntmps101
  go_wp2_with (first
    | ((with_reducible show wpList _ _ _ _ _ w); refine alloc_row (w := w) rfl 176 rfl (.agg (Bs (List.replicate 256 0))) 256 (fun _ => by kernel_rfl) rfl ?_; intro w1 hR1 _ hG1 hs1)
    | ((with_reducible show wpList _ _ _ _ _ w1); refine alloc_row (w := w1) rfl 209 rfl (.agg (Bs (List.replicate 255 0))) 255 (fun _ => by kernel_rfl) rfl ?_; intro w2 _ hh2 hG2 hs2))
  have hB2 : Blk w2 (N + 1) 209 (updn 255 epow (List.replicate 255 0) 0) := by
    rw [updn_zero _ _ _ (by simp)]
    have : w1.heap.size = N + 1 := by omega
    rw [this] at hh2
    exact hh2
  have hb0 : Below N w w2 := below_none (below_none (Below.refl N w) (by omega) hG1) (by omega) hG2
  have hR2 : Row w2 N 176 256 := by rw [← hN]; exact hR1.old hG2 (by simp)
  have hz2 : w2.heap.size = N + 2 := by omega
  have HB2 := Lib.hid hB2
  have HR2 := Lib.hid hR2
  have Hb0 := Lib.hid hb0
  have HZ2 := Lib.hid hz2
  clear hB2 hR2 hb0 hz2 hh2 hG1 hG2 hR1 hs1 hs2 hN
  go_loopw [2, 3] (fun vx i wr => ∃ k : Nat, k ≤ 255 ∧ i = .int .i64 k ∧ vx = .int .u8 (bv (epow k)) ∧ Blk wr (N + 1) 209 (updn 255 epow (List.replicate 255 0) k) ∧ Row wr N 176 256 ∧ Below N w wr ∧ N + 2 ≤ wr.heap.size) (fun _ i _ => 255 - (intOf i).toNat)
  case atStart => exact ⟨0, by omega, rfl, rfl, HB2.out, HR2.out, Hb0.out, by rw [HZ2.out]; exact Nat.le_refl _⟩
  case round =>
    clear HB2 HR2 Hb0 HZ2
    obtain ⟨k, hk, rfl, rfl, hB, hR, hb, hz⟩ := hrel
    by_cases hlt : k < 255
    · have c1 := hB.cell k (by rw [updn_len]; exact hlt)
      have f1 := hB.free k
      have HB := Lib.hid hB
      have HR := Lib.hid hR
      have Hb := Lib.hid hb
      have HLT := Lib.hid hlt
      clear hB hR hb
      go_wp2_with (go_at_call 102; refine (rMul_3 _ _).mono ?_; rintro e w' ⟨rfl, rfl⟩)
      have hG3 : wr.grownBy (wr.setCell ⟨N + 1, k, none⟩ (.int .u8 (bv (epow k)))) (some (N + 1)) := grown_set (grown_refl _ _) _ _
      go_roundw
      case rel => exact ⟨k + 1, HLT.out, by go_num, rfl, by rw [← updn_set _ _ _ _ HLT.out]; exact HB.out.set k _, HR.out.old hG3 (by simp), below_new Hb.out (by omega) hG3 (by omega), by rw [World.size_setCell]; exact hz⟩
      case measure => have := HLT.out; simp [intOf]; omega
    · obtain rfl : k = 255 := by omega
      have HB := Lib.hid hB
      have HR := Lib.hid hR
      have Hb := Lib.hid hb
      have HZ := Lib.hid hz
      clear hB hR hb hz
      have hlen : (updn 255 epow (List.replicate 255 0) 255).length = 255 := updn_len _ _ _ _
      have hE : ∀ j, j < 255 → g8 (updn 255 epow (List.replicate 255 0) 255) j = epow j := fun j hj => by rw [updn_at _ _ _ _ _ hj, if_pos hj]
      obtain ⟨E, eE⟩ : ∃ E, updn 255 epow (List.replicate 255 0) 255 = E := ⟨_, rfl⟩
      rw [eE] at HB hlen hE
      have HL := Lib.hid hlen
      have HE := Lib.hid hE
      clear eE hlen hE
      obtain ⟨n, en⟩ : ∃ n, wr.heap.size = n := ⟨_, rfl⟩
      have HNn := Lib.hid en
      go_wp2_with (first
        | ((with_reducible show wpList _ _ _ _ _ wr); refine alloc_row (w := wr) rfl 176 rfl (.agg (Bs (List.replicate 256 0))) 256 (fun _ => by kernel_rfl) rfl ?_; intro w3 hR3 hh3 hG3 hs3; have hB3 : Blk w3 n 176 (List.replicate 256 0) := (by rw [← en]; exact hh3); have c3 := hB3.cell 0 (by simp); have f3 := hB3.free 0; have HB3 := Lib.hid hB3; clear hR3 hh3 hB3)
        | (go_at_call 129; refine (rAff_0 _).mono ?_; rintro e w3 ⟨rfl, rfl⟩))
      have hGs : w3.grownBy (w3.setCell ⟨n, 0, none⟩ (.int .u8 (bv (gaff 0)))) (some n) := grown_set (grown_refl _ _) _ _
      have hG5 : wr.grownBy (w3.setCell ⟨n, 0, none⟩ (.int .u8 (bv (gaff 0)))) (some n) := grown_set (grown_weakr hG3) _ _
      have HG5 := Lib.hid hG5
      have HN2 := Lib.hid (show N + 2 ≤ n by rw [← en]; exact HZ.out)
      have HB5 := Lib.hid (show Blk (w3.setCell ⟨n, 0, none⟩ (.int .u8 (bv (gaff 0)))) n 176 (bx 0) from HB3.out.set 0 _)
      generalize w3.setCell ⟨n, 0, none⟩ (.int .u8 (bv (gaff 0))) = w5 at HG5 HB5 ⊢
      clear c3 f3 hGs hG5 hG3 hs3 HB3 en
      have HR5 := Lib.hid (show Row w5 N 176 256 from HR.out.old HG5.out (by have := HN2.out; simp; omega))
      have HE5 := Lib.hid (show Blk w5 (N + 1) 209 E from HB.out.old HG5.out (by have := HN2.out; simp; omega))
      have Hb5 := Lib.hid (show Below N w w5 from below_new Hb.out (by have := HZ.out; omega) HG5.out (by have := HN2.out; omega))
      have HZ5 := Lib.hid (show N ≤ w5.heap.size from by have := HG5.out.size; have := HZ.out; omega)
      clear HG5 HB HR Hb HZ HNn
      go_loopw [5] (fun i wr => ∃ k : Nat, k ≤ 255 ∧ i = .int .i64 k ∧ Blk wr (N + 1) 209 E ∧ Blk wr n 176 (bx k) ∧ Row wr N 176 256 ∧ Below N w wr) (fun i _ => 255 - (intOf i).toNat)
      case atStart => exact ⟨0, by omega, rfl, HE5.out, HB5.out, HR5.out, Hb5.out⟩
      case round =>
        clear HE5 HB5 HR5 Hb5 HZ5
        obtain ⟨k, hk, rfl, hE, hB, hR, hb⟩ := hrel
        by_cases hlt : k < 255
        · obtain ⟨m, em⟩ : ∃ m, (255 - k) % 255 = m := ⟨_, rfl⟩
          have hm : m < 255 := by omega
          have c1 := hE.cell k (by rw [HL.out]; exact hlt)
          have c2 := hE.cell m (by rw [HL.out]; exact hm)
          rw [HE.out k hlt] at c1
          rw [HE.out m hm] at c2
          obtain ⟨x, ex⟩ : ∃ x, epow k = x := ⟨_, rfl⟩
          obtain ⟨y, ey⟩ : ∃ y, epow m = y := ⟨_, rfl⟩
          rw [ex] at c1
          rw [ey] at c2
          have hx0 := bv_ge x
          have hx1 := bv_lt x
          have hxt : (bv x).toNat = x.toNat := by unfold bv; simp
          have c3 := hB.cell x.toNat (by rw [bx_len]; exact x.toNat_lt)
          have f3 := hB.free x.toNat
          have HS := Lib.hid (show bx (k + 1) = (bx k).set x.toNat (gaff y) by rw [bx_succ, em, ex, ey])
          have e1 : IntKind.i64.wrap (255 - (k : Int)) = 255 - (k : Int) := IntWalk.i64_in _ (by omega)
          have e2 : (255 - (k : Int)).tmod 255 = (m : Int) := by rw [Int.tmod_eq_emod_of_nonneg (by omega)]; omega
          have hm0 : (m : Int) < 255 := by omega
          have HE2 := Lib.hid hE
          have HB := Lib.hid hB
          have HR := Lib.hid hR
          have Hb := Lib.hid hb
          have HLT := Lib.hid hlt
          clear hE hB hR hb ex ey em hk
          go_wp2
          go_still_tail 10, (by kernel_rfl)
          still_call (rAff_any _ _)
          repeat still_step
          refine wpStill_nil ?_
          change wpList _ _ _ _ _ wr.drew
          clear e1 e2
          go_wp2
          go_roundw
          case rel =>
            have hG3 : wr.grownBy (wr.setCell ⟨n, x.toNat, none⟩ (.int .u8 (bv (gaff y)))) (some n) := grown_set (grown_refl _ _) _ _
            have hN2 := HN2.out
            have hR3 := HR.out.old hG3 (by simp; omega)
            exact ⟨k + 1, HLT.out, by go_num, (HE2.out.old hG3 (by simp; omega)).drew, by rw [HS.out]; exact (HB.out.set _ _).drew, hR3, (below_new Hb.out (by have := Hb.out.size; have := HN.out; omega) hG3 (by omega)).drew⟩
          case measure => have := HLT.out; simp [intOf]; omega
        · obtain rfl : k = 255 := by omega
          have HB := Lib.hid hB
          have HR := Lib.hid hR
          have Hb := Lib.hid hb
          clear hE hB hR hb
          go_wp2_with (first
            | ((with_reducible show wpList _ _ _ _ _ wr); refine load_blk (w := wr) rfl 176 _ rfl n 176 256 5 (bx 255) rfl HB.out (bx_len _) (by kernel_rfl) (by kernel_rfl) ?_)
            | ((with_reducible show wpList _ _ _ _ _ wr); refine store_blk (w := wr) rfl 176 _ _ rfl N 176 256 (bx 255) rfl rfl HR.out (bx_len _) (by kernel_rfl) ?_; intro w9 hB9 hG9 hs9))
          refine bodyPost_ret (results_blk1 rfl _ _ N 176 256 5 (bx 255) rfl hB9 (bx_len _) (by kernel_rfl) (by kernel_rfl)) rfl ⟨rfl, ?_⟩
          rw [HN.out]
          exact below_new Hb.out (by have := Hb.out.size; have := HN.out; omega) hG9 (Nat.le_refl _)
end Go.Proofs.YtbbfjlnkhenbiaaGreatDoor
set_option linter.unusedVariables false
set_option linter.unusedSimpArgs false
namespace Lk
open Go Go.RowKit
def w4t : Nat := 204
def w4s : Nat := 208
/-- a slice of the call's own that holds n words, laid one behind the other -/
def OwnW (w : World) (base : Nat) (v : Value) (n : Nat) (l : List UInt8) : Prop := w.ownsRow base w4t 4 v n (Bl l)
theorem OwnW.len {w : World} {base n : Nat} {v : Value} {l : List UInt8} (h : OwnW w base v n l) : l.length = n * 4 := by
  have := h.1; rwa [Bl_len] at this
theorem OwnW.lt {w : World} {base n : Nat} {v : Value} {l : List UInt8} (h : OwnW w base v n l) : ∀ k, v.ownBlock = some k → base ≤ k ∧ k < w.heap.size := World.ownsRow.lt h
theorem OwnW.kept {w w' : World} {base n : Nat} {v : Value} {l : List UInt8} {row : Option Nat} (h : OwnW w base v n l) (hg : w.grownBy w' row) (hne : v.ownBlock = none ∨ v.ownBlock ≠ row) : OwnW w' base v n l := World.ownsRow.kept h hg hne
theorem OwnW.alloc {w : World} {base n : Nat} {v : Value} {l : List UInt8} (h : OwnW w base v n l) (o : Obj) : OwnW (w.alloc o) base v n l := World.ownsRow.alloc h o
theorem OwnW.drew {w : World} {base n : Nat} {v : Value} {l : List UInt8} (h : OwnW w base v n l) : OwnW w.drew base v n l := h
theorem OwnW.under {w w1 : World} {base n : Nat} {v : Value} {l : List UInt8} (h : OwnW w base v n l) (hL : Below w.heap.size w w1) : OwnW w1 base v n l :=
  ⟨h.1, h.2.imp id fun ⟨g, cap, cur, e, hg, r, s⟩ => ⟨g, cap, cur, e, hg, by
    have hlt : g < w.heap.size := (Array.getElem?_eq_some_iff.1 r).1
    rw [hL.block g hlt]; exact r, s⟩⟩
theorem OwnW.nil (w : World) (base : Nat) : OwnW w base (.slice none 0 0) 0 [] := ⟨rfl, .inl ⟨rfl, rfl⟩⟩
theorem OwnW.form {w : World} {base n : Nat} {v : Value} {l : List UInt8} (h : OwnW w base v n l) (hn : 0 < n) : ∃ g cap, v = .slice (some ⟨g, 0, none⟩) n cap ∧ base ≤ g ∧ g < w.heap.size ∧ Rd w g 0 l ∧ n ≤ cap ∧ cap ≤ maxLen := by
  have hx := h
  rcases h.2 with ⟨_, h0⟩ | ⟨g, cap, cur, rfl, hb, hg, h1, h2, _, _⟩
  · omega
  · refine ⟨g, cap, rfl, hb, (Array.getElem?_eq_some_iff.1 hg).1, fun k hk => ?_, h1, h2⟩
    rw [Nat.zero_add, World.ownsRow.cellAt (h := hx) k (by rw [← hx.len]; exact hk)]
    exact Bl_get' l k hk
theorem OwnW.ne_blk {w : World} {base n g2 T : Nat} {g cap : Nat} {l l2 : List UInt8} (h : OwnW w base (.slice (some ⟨g, 0, none⟩) n cap) n l) (hB : Blk w g2 T l2) (hT : w4t ≠ T) : g ≠ g2 := by
  rintro rfl
  rcases h.2 with ⟨e, _⟩ | ⟨g', cap', cur, e, _, hg, _⟩
  · cases e
  · cases e
    unfold Blk at hB
    rw [hg] at hB
    injection hB with hB
    injection hB with _ ht
    exact hT ht
theorem OwnW.ne_own {w : World} {base n g2 T : Nat} {v : Value} {l l2 : List UInt8} (h : OwnW w base v n l) (hB : Blk w g2 T l2) (hT : w4t ≠ T) : v.ownBlock ≠ some g2 := by
  rcases h.2 with ⟨rfl, _⟩ | ⟨g', cap', cur, rfl, _, hg, _⟩
  · simp [Value.ownBlock]
  · intro e
    have : g' = g2 := by simpa [Value.ownBlock] using e
    subst this
    unfold Blk at hB
    rw [hg] at hB
    injection hB with hB
    injection hB with _ ht
    exact hT ht
section
variable {P : Program} {ops : Array Oper} {rest : List Oper} {o : Oper} {a : Act} {w : World} {Q : Exit → Act → World → Prop}
theorem op_word (hgd : o.guard = none) (T n : Nat) (x : Operand) (ho : o.op = .buildSlice T n #[(0, x)]) (v : Value) (w1 : World) (h : (execOp a.eval o).run P w = .ok (.value v) w1) (hk : wpList P ops Q rest (a.put o.dst v) w1) : wpList P ops Q (o :: rest) a w :=
  wpList_plain hgd fun _ hK => by
    unfold Oper.wp
    rw [h]
    exact hK _ _ hk
theorem list4 (l : List UInt8) (h : l.length = 4) : ∃ a b c d, l = [a, b, c, d] := by
  match l, h with
  | [a, b, c, d], _ => exact ⟨a, b, c, d, rfl⟩
theorem append_w (hu : P.underlying w4s = some (.slice w4t)) (hinfo : (P.info? w4t).map (fun i => (i.zero, i.size, i.bytes)) = some (some (.agg (Bs (List.replicate 4 0))), 4, 4)) (hgd : o.guard = none) (s x : Operand)
    (ho : o.op = .call { callee := .builtin .append, args := #[s, x], argTypes := #[w4s, w4s] }) (base n : Nat) (v : Value) (l : List UInt8) (hs : a.eval s = v) (hown : OwnW w base v n l)
    (g2 : Nat) (m : List UInt8) (hx : a.eval x = .slice (some ⟨g2, 0, none⟩) 1 1) (hm : Rd w g2 0 m) (hm4 : m.length = 4) (hlen : n + 1 ≤ 1000000) (hbase : base ≤ w.heap.size)
    (h : ∀ v' w', OwnW w' base v' (n + 1) (l ++ m) → w.grownBy w' v.ownBlock → wpList P ops Q rest (a.put o.dst v') w') : wpList P ops Q (o :: rest) a w := by
  obtain ⟨i, hi, hz, h1, h2⟩ := info_parts hinfo
  refine wpList_append_own w hgd s x w4s ho base w4t i (.agg (Bs (List.replicate 4 0))) 4 4 hu hi hz h1 h2 rfl (by decide) v n (Bl l) hs hown ⟨g2, 0, none⟩ 1 1 (Bl m) hx (by rw [Bl_len, hm4]) ?_ (Bl_one m) (by unfold maxLen; omega) (by omega) hbase ?_
  · intro j u hj
    obtain ⟨hjl, rfl⟩ := Bl_get m j u hj
    have := hm j hjl
    rw [Nat.zero_add] at this
    have e : (⟨g2, 0, none⟩ : Addr).add j = ⟨g2, j, none⟩ := by unfold Addr.add; split <;> simp_all
    rw [e]; exact this
  · intro v' w' h3 h4 _
    refine h v' w' ?_ h4
    unfold OwnW
    rw [Bl_app]
    exact h3
theorem step_append_w {E : Prop} {K : Act → World → Prop} (hu : P.underlying w4s = some (.slice w4t)) (hinfo : (P.info? w4t).map (fun i => (i.zero, i.size, i.bytes)) = some (some (.agg (Bs (List.replicate 4 0))), 4, 4)) (hgd : o.guard = none) (s x : Operand)
    (ho : o.op = .call { callee := .builtin .append, args := #[s, x], argTypes := #[w4s, w4s] }) (base n : Nat) (v : Value) (l : List UInt8) (hs : a.eval s = v) (hown : OwnW w base v n l)
    (g2 : Nat) (m : List UInt8) (hx : a.eval x = .slice (some ⟨g2, 0, none⟩) 1 1) (hm : Rd w g2 0 m) (hm4 : m.length = 4) (hlen : n + 1 ≤ 1000000) (hbase : base ≤ w.heap.size)
    (h : ∀ g cap w', OwnW w' base (.slice (some ⟨g, 0, none⟩) (n + 1) cap) (n + 1) (l ++ m) → w.grownBy w' v.ownBlock → (v.ownBlock = some g ∨ g = w.heap.size) → K (a.put o.dst (.slice (some ⟨g, 0, none⟩) (n + 1) cap)) w') :
    if Region.wanted o (yielded ops a.tmps) = true then Oper.wp P o a w K Q else E := by
  obtain ⟨i, hi, hz, h1, h2⟩ := info_parts hinfo
  refine step_append_lies w hgd s x w4s ho base w4t i (.agg (Bs (List.replicate 4 0))) 4 4 hu hi hz h1 h2 rfl (by decide) v n (Bl l) hs hown ⟨g2, 0, none⟩ 1 1 (Bl m) hx (by rw [Bl_len, hm4]) ?_ (Bl_one _) (by decide) (by unfold maxLen; omega) (by omega) hbase w.heap.size rfl ?_
  · intro j u hj
    obtain ⟨hjl, rfl⟩ := Bl_get m j u hj
    have := hm j hjl
    rw [Nat.zero_add] at this
    have e : (⟨g2, 0, none⟩ : Addr).add j = ⟨g2, j, none⟩ := by unfold Addr.add; split <;> simp_all
    rw [e]; exact this
  · intro g cap w' h3 h4 h5 _
    refine h g cap w' ?_ h4 h5
    unfold OwnW
    rw [Bl_app]
    exact h3
/-- four cells that have just been laid -/
theorem rd_lit (w : World) (T : TypeId) (a b c d : UInt8) : Rd (w.alloc (.cells #[.int .u8 (bv a), .int .u8 (bv b), .int .u8 (bv c), .int .u8 (bv d)] T)) w.heap.size 0 [a, b, c, d] := fun k hk => by
  rw [Nat.zero_add]
  have : (w.alloc (.cells #[.int .u8 (bv a), .int .u8 (bv b), .int .u8 (bv c), .int .u8 (bv d)] T)).heap[w.heap.size]? = some (.cells (Bs [a, b, c, d]) T (0, 0)) := heap_alloc_new w _
  rw [cell_of_row _ _ k _ T _ this]
  exact Bs_get _ k hk
theorem rd_bs (w : World) (T : TypeId) (l : List UInt8) : Rd (w.alloc (.cells (Bs l) T)) w.heap.size 0 l := fun k hk => by
  rw [Nat.zero_add]
  have : (w.alloc (.cells (Bs l) T)).heap[w.heap.size]? = some (.cells (Bs l) T (0, 0)) := heap_alloc_new w _
  rw [cell_of_row _ _ k _ T _ this]
  exact Bs_get _ k hk
end
section
variable {P : Program} {ops : Array Oper} {o : Oper} {a : Act} {w : World}
/-- an index into a slice, the index told -/
theorem yields_ix {S : World → Prop} (hw : Region.wanted o (yielded ops a.tmps) = true) (t : TypeId) (x y : Operand) (ho : o.op = .indexAddr t x y) (g k L c j sz : Nat) (i : Int) (hx : a.eval x = .slice (some ⟨g, k, none⟩) L c) (hy : a.eval y = .int .i64 i) (hi : i = (j : Int)) (hj : j < L) (p : Nat) (hp : k + j * sz = p)
    (hu : P.underlying t = some (.slice (P.elem t))) (hs : ∀ w : World, (sizeOf (P.elem t) : Sem Nat).run P w = .ok sz w) : YieldsIf P ops S o (.pointer (some ⟨g, p, none⟩)) a := .inl ⟨hw, fun w _ => by
    subst hi hp
    unfold execOp
    simp only [ho, hx, hy]
    rw [Sem.run_bind, run_indexAt_slice w t _ _ _ _ _ hu, if_pos ⟨by omega, by omega⟩, hs, Result.andThen_ok, Int.toNat_natCast]
    have e : (⟨g, k, none⟩ : Addr).add (j * sz) = ⟨g, k + j * sz, none⟩ := by unfold Addr.add; split <;> simp_all
    rw [e]
    rfl⟩
theorem yields_ixa {S : World → Prop} (hw : Region.wanted o (yielded ops a.tmps) = true) (t : TypeId) (x y : Operand) (ho : o.op = .indexAddr t x y) (g k j sz : Nat) (i : Int) (hx : a.eval x = .pointer (some ⟨g, k, none⟩)) (hy : a.eval y = .int .i64 i) (hi : i = (j : Int)) (hj : j < P.arrayLen t) (p : Nat) (hp : k + j * sz = p)
    (hu : P.underlying t = some (.array (P.arrayLen t) (P.elem t))) (hs : ∀ w : World, (sizeOf (P.elem t) : Sem Nat).run P w = .ok sz w) : YieldsIf P ops S o (.pointer (some ⟨g, p, none⟩)) a := .inl ⟨hw, fun w _ => by
    subst hi hp
    unfold execOp
    simp only [ho, hx, hy]
    rw [Sem.run_bind, run_indexAt_array w t _ _ _ hu, if_pos ⟨by omega, by omega⟩, hs, Result.andThen_ok, Int.toNat_natCast]
    have e : (⟨g, k, none⟩ : Addr).add (j * sz) = ⟨g, k + j * sz, none⟩ := by unfold Addr.add; split <;> simp_all
    rw [e]
    rfl⟩
/-- a byte that is read -/
theorem yields_byte {S : World → Prop} (hw : Region.wanted o (yielded ops a.tmps) = true) (u : UInt8) (ty : TypeId) (x : Operand) (ho : o.op = .load ty x) (g k : Nat) (hx : a.eval x = .pointer (some ⟨g, k, none⟩)) (hl : ∀ (w : World) (y : Int), w.cell? ⟨g, k, none⟩ = some (.int .u8 y) → (loadVar ty ⟨g, k, none⟩ : Sem Value).run P w = .ok (.int .u8 y) w)
    (hc : ∀ w, S w → w.cell? ⟨g, k, none⟩ = some (.int .u8 (bv u))) : YieldsIf P ops S o (.int .u8 (bv u)) a := .inl ⟨hw, fun w hS => by
    unfold execOp
    simp only [ho, hx, Instr.loadAt, Instr.sureAddr, Sem.run_bind, Sem.run_pure, Result.andThen_ok, hl w _ (hc w hS)]⟩
theorem wpOp_append_w {i : Nat} {Q : Exit → Act → World → Prop} {K : Act → World → Prop} (hi : ops[i]? = some o) (hw : Region.wanted o (yielded ops a.tmps) = true) (hu : P.underlying w4s = some (.slice w4t)) (hinfo : (P.info? w4t).map (fun i => (i.zero, i.size, i.bytes)) = some (some (.agg (Bs (List.replicate 4 0))), 4, 4)) (hgd : o.guard = none) (s x : Operand)
    (ho : o.op = .call { callee := .builtin .append, args := #[s, x], argTypes := #[w4s, w4s] }) (base n : Nat) (v : Value) (l : List UInt8) (hs : a.eval s = v) (hown : OwnW w base v n l)
    (g2 : Nat) (m : List UInt8) (hx : a.eval x = .slice (some ⟨g2, 0, none⟩) 1 1) (hm : Rd w g2 0 m) (hm4 : m.length = 4) (hlen : n + 1 ≤ 1000000) (hbase : base ≤ w.heap.size)
    (h : ∀ g cap w', OwnW w' base (.slice (some ⟨g, 0, none⟩) (n + 1) cap) (n + 1) (l ++ m) → w.grownBy w' v.ownBlock → (v.ownBlock = some g ∨ g = w.heap.size) → K (a.put o.dst (.slice (some ⟨g, 0, none⟩) (n + 1) cap)) w') : wpOp P ops Q i K a w := by
  unfold Go.wpOp
  simp only [hi, hw, if_true]
  refine .inl ?_
  have := step_append_w (ops := ops) (a := a) (w := w) (Q := Q) (E := False) hu hinfo hgd s x ho base n v l hs hown g2 m hx hm hm4 hlen hbase h
  rwa [if_pos hw] at this
end
theorem take4 (l : List UInt8) (k : Nat) (h : 4 * k + 4 ≤ l.length) : l.take (4 * (k + 1)) = l.take (4 * k) ++ [g8 l (4 * k), g8 l (4 * k + 1), g8 l (4 * k + 2), g8 l (4 * k + 3)] := by
  rw [show 4 * (k + 1) = 4 * k + 3 + 1 by omega, take_one l _ (by omega), show 4 * k + 3 = 4 * k + 2 + 1 by omega, take_one l _ (by omega), show 4 * k + 2 = 4 * k + 1 + 1 by omega, take_one l _ (by omega), take_one l _ (by omega)]
  simp
end Lk
namespace Go.Proofs.YtbbfjlnkhenbiaaGreatDoor
open Go Go.RowKit Lk
theorem hu_w4 : Tryz.prog.underlying w4s = some (.slice w4t) := by kernel_rfl
theorem load_u8 (w : World) (ad : Addr) (y : Value) (h : w.cell? ad = some y) : (loadVar 5 ad : Sem Value).run Tryz.prog w = .ok y w := by
  simp [loadVar, go_sem, h]
theorem hi_w4 : (Tryz.prog.info? w4t).map (fun i => (i.zero, i.size, i.bytes)) = some (some (.agg (Bs (List.replicate 4 0))), 4, 4) := by kernel_rfl
end Go.Proofs.YtbbfjlnkhenbiaaGreatDoor
set_option linter.unusedVariables false
set_option linter.unusedSimpArgs false
namespace Lk
/-- the bytes of a word turned by those of another one -/
def wx (W t : List UInt8) (n k : Nat) : UInt8 := g8 t k ^^^ g8 W (n + k)
theorem wx_next (nk m : Nat) (W t : List UInt8) (h : W.length = 4 * m) (hm : nk ≤ m) (ht : t.length = 4) : W ++ updn 4 (wx W t (4 * (m - nk))) t 4 = wnext nk W t := by
  unfold wnext
  have e : W.length - 4 * nk = 4 * (m - nk) := by omega
  simp only [e]
  congr 1
  show [wx W t (4 * (m - nk)) 0, wx W t (4 * (m - nk)) 1, wx W t (4 * (m - nk)) 2, wx W t (4 * (m - nk)) 3] = _
  unfold wx
  simp only [Nat.add_zero]
  rw [UInt8.xor_comm (g8 t 0), UInt8.xor_comm (g8 t 1), UInt8.xor_comm (g8 t 2), UInt8.xor_comm (g8 t 3)]
end Lk
