/- The reference's bytes of bits, and a block doubled: bits moved up by one. -/
import Derived.Test.YtpfmhohldfnhmaaKRH
import Derived.Test.YtpfmhohldfnhmaaKB5
import Derived.Test.YtpfmhohldfnhmaaKB6
import Derived.Test.YtpfmhohldfnhmaaKR6
set_option linter.unusedVariables false
set_option linter.unusedSimpArgs false
namespace Lk
open Go Go.RowKit
theorem pbits_at (l : List UInt8) : ∀ i, i < 8 * l.length → (pbits l).getD i 0 = pbit (g8 l (i / 8)) (7 - i % 8) := by
  induction l with
  | nil => intro i h; simp at h
  | cons c r ih =>
    intro i h
    show (byteBits c ++ pbits r).getD i 0 = _
    rw [getD_app, byteBits_len]
    split
    · rename_i h8
      rw [Nat.div_eq_of_lt h8, Nat.mod_eq_of_lt h8]
      simp [byteBits, h8, g8]
    · rename_i h8
      simp only [List.length_cons] at h
      rw [ih (i - 8) (by omega), show i / 8 = (i - 8) / 8 + 1 by omega, show i % 8 = (i - 8) % 8 by omega]
      rfl
def shl0 (c : UInt8) (t : UInt8) : Bool := (List.range 7).all (fun s => pbit ((c <<< 1) ||| t) (s + 1) == pbit c s) && (pbit ((c <<< 1) ||| t) 0 == bv t)
set_option maxRecDepth 100000 in
theorem shl0_0 : allB (fun c => shl0 c 0) = true := by decide +kernel
set_option maxRecDepth 100000 in
theorem shl0_1 : allB (fun c => shl0 c 1) = true := by decide +kernel
set_option maxRecDepth 100000 in
theorem shr7_all : allB (fun d => (d >>> 7 == 0 || d >>> 7 == 1) && (bv (d >>> 7) == pbit d 7)) = true := by decide +kernel
theorem shr7 (d : UInt8) : (d >>> 7 = 0 ∨ d >>> 7 = 1) ∧ bv (d >>> 7) = pbit d 7 := by
  have := allB_spec shr7_all d
  simpa using this
theorem shl_bits (c d : UInt8) : (∀ s, s < 7 → pbit ((c <<< 1) ||| (d >>> 7)) (s + 1) = pbit c s) ∧ pbit ((c <<< 1) ||| (d >>> 7)) 0 = pbit d 7 := by
  have hs : shl0 c (d >>> 7) = true := by
    rcases (shr7 d).1 with h | h <;> rw [h]
    · exact allB_spec shl0_0 c
    · exact allB_spec shl0_1 c
  unfold shl0 at hs
  rw [Bool.and_eq_true, List.all_eq_true] at hs
  refine ⟨fun s h => ?_, ?_⟩
  · simpa using hs.1 s (List.mem_range.2 h)
  · rw [← (shr7 d).2]; simpa using hs.2
theorem pbits_dbl (b : List UInt8) (hb : 0 < b.length) : (pbits b).drop 1 ++ [0] = pbits (dblTo b b.length) := by
  apply ext_d
  · simp [pbits_len, dblTo_len]; omega
  · intro i hi
    have hi8 : i < 8 * b.length := by simp [pbits_len] at hi; omega
    have hiq : i / 8 < b.length := by omega
    rw [pbits_at _ _ (by rw [dblTo_len]; exact hi8), dblTo_at _ _ _ hiq, if_pos hiq, getD_app, List.length_drop, pbits_len]
    obtain ⟨h1, h2⟩ := shl_bits (g8 b (i / 8)) (g8 b (i / 8 + 1))
    by_cases hm : i % 8 < 7
    · rw [if_pos (by omega), getD_drop, pbits_at _ _ (by omega), show 7 - i % 8 = (6 - i % 8) + 1 by omega, h1 _ (by omega), show (1 + i) / 8 = i / 8 by omega, show 7 - (1 + i) % 8 = 6 - i % 8 by omega]
    · rw [show 7 - i % 8 = 0 by omega, h2]
      by_cases hl : i + 1 < 8 * b.length
      · rw [if_pos (by omega), getD_drop, pbits_at _ _ (by omega), show (1 + i) / 8 = i / 8 + 1 by omega, show 7 - (1 + i) % 8 = 7 by omega]
      · rw [if_neg (by omega), show i - (8 * b.length - 1) = 0 by omega]
        have : g8 b (i / 8 + 1) = 0 := by unfold g8; simp [List.getD_eq_getElem?_getD, List.getElem?_eq_none (show b.length ≤ i / 8 + 1 by omega)]
        rw [this]; rfl
set_option maxRecDepth 100000 in
theorem top_all : allB (fun c => (c &&& 0x80 != 0) == (pbit c 7 == 1)) = true := by decide +kernel
theorem top_bit (c : UInt8) : (c &&& 0x80 != 0) = (pbit c 7 == 1) := by
  have := allB_spec top_all c
  simpa using this
theorem pbits_0 (b : List UInt8) (hb : 0 < b.length) : (pbits b).getD 0 0 = pbit (g8 b 0) 7 := by
  rw [pbits_at b 0 (by omega)]
theorem pdbl_eq (b : List UInt8) : pdbl b = if pbit (g8 b 0) 7 = 1 then (dblTo b b.length).set (b.length - 1) (g8 (dblTo b b.length) (b.length - 1) ^^^ dturn b.length) else dblTo b b.length := by
  unfold pdbl
  dsimp only
  rw [top_bit]
  by_cases h : pbit (g8 b 0) 7 = 1
  · rw [if_pos h, if_pos (by simpa using h)]
  · rw [if_neg h, if_neg (by simpa using h)]
/-- a byte's first k bits summed up -/
def accP (c : UInt8) (k : Nat) : Nat := c.toNat / 2 ^ (8 - k)
theorem accP_zero (c : UInt8) : accP c 0 = 0 := Nat.div_eq_of_lt c.toNat_lt
theorem accP_succ (c : UInt8) (k : Nat) (h : k < 8) : 2 * (accP c k : Int) + pbit c (7 - k) = (accP c (k + 1) : Int) := by
  unfold accP pbit
  have e : c.toNat / 2 ^ (8 - k) = c.toNat / 2 ^ (7 - k) / 2 := by
    rw [Nat.div_div_eq_div_mul, ← Nat.pow_succ, show (7 - k).succ = 8 - k by omega]
  rw [e, show 8 - (k + 1) = 7 - k by omega]
  omega
theorem accP_lt (c : UInt8) (k : Nat) : accP c k < 256 := Nat.lt_of_le_of_lt (Nat.div_le_self _ _) c.toNat_lt
theorem accP_8 (c : UInt8) : (accP c 8 : Int) = bv c := by unfold accP bv; simp
theorem pbit_nat (c : UInt8) (i : Nat) : ∃ b : Nat, pbit c i = (b : Int) ∧ b < 2 := ⟨c.toNat / 2 ^ i % 2, rfl, Nat.mod_lt _ (by decide)⟩
end Lk
namespace Go.Proofs.Ytpfmhohldfnhmaa
open Go Go.RowKit Lk
end Go.Proofs.Ytpfmhohldfnhmaa
set_option linter.unusedVariables false
set_option linter.unusedSimpArgs false
namespace Lk
theorem pbit_01 (c : UInt8) (i : Nat) : pbit c i = 0 ∨ pbit c i = 1 := by unfold pbit; omega
end Lk
namespace Go.Proofs.Ytpfmhohldfnhmaa
open Go Go.RowKit Lk
end Go.Proofs.Ytpfmhohldfnhmaa
set_option linter.unusedVariables false
set_option linter.unusedSimpArgs false
namespace Lk
open Go.Proofs.Ytpfmhohldfnhmaa
theorem pdo1 (key b : List UInt8) : pdo 1 key b false = pEnc key b := by
  unfold pdo
  rw [if_neg (by decide)]
  simp only [cond_false]
theorem pcmac1 (key text l full : List UInt8) (h : pEnc key (List.replicate 16 0) = l) (hf : pfull 16 text l = full) : pcmac 1 key text = pchain 1 key full (full.length / 16) := by
  unfold pcmac
  have e : psize 1 = 16 := by unfold psize; rw [if_neg (by decide)]
  simp only [e, pdo1, h, hf]
end Lk
namespace Go.Proofs.Ytpfmhohldfnhmaa
open Go Go.RowKit Lk
end Go.Proofs.Ytpfmhohldfnhmaa
