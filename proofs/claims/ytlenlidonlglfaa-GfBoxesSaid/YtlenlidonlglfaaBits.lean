/- Go's operations on bytes, told by UInt8's own. -/
import Derived.Laws.BitsLemmas
import GoSem.Claim
import Derived.Test.YtlenlidonlglfaaGf
set_option linter.unusedSimpArgs false
namespace Lk
theorem ofInt_u8 (a : UInt8) : BitVec.ofInt 8 (a.toNat : Int) = a.toBitVec := by
  apply BitVec.eq_of_toNat_eq
  rw [BitVec.ofInt_natCast]
  simp
theorem wrap_u8 (n : Nat) (h : n < 256) : Go.IntKind.u8.wrap (n : Int) = n := by
  rw [Go.IntKind.wrap_u8]
  omega
theorem bits_xor_u8 (a b : UInt8) : Go.bits .xor .u8 (a.toNat : Int) (b.toNat : Int) = ((a ^^^ b).toNat : Int) := by
  show Go.IntKind.u8.wrap ((BitVec.ofInt 8 (a.toNat : Int) ^^^ BitVec.ofInt 8 (b.toNat : Int)).toNat : Int) = _
  rw [ofInt_u8, ofInt_u8, wrap_u8 _ (by exact (a.toBitVec ^^^ b.toBitVec).isLt)]
  rfl
theorem bits_and_u8 (a b : UInt8) : Go.bits .and .u8 (a.toNat : Int) (b.toNat : Int) = ((a &&& b).toNat : Int) := by
  show Go.IntKind.u8.wrap ((BitVec.ofInt 8 (a.toNat : Int) &&& BitVec.ofInt 8 (b.toNat : Int)).toNat : Int) = _
  rw [ofInt_u8, ofInt_u8, wrap_u8 _ (by exact (a.toBitVec &&& b.toBitVec).isLt)]
  rfl
theorem bits_or_u8 (a b : UInt8) : Go.bits .or .u8 (a.toNat : Int) (b.toNat : Int) = ((a ||| b).toNat : Int) := by
  show Go.IntKind.u8.wrap ((BitVec.ofInt 8 (a.toNat : Int) ||| BitVec.ofInt 8 (b.toNat : Int)).toNat : Int) = _
  rw [ofInt_u8, ofInt_u8, wrap_u8 _ (by exact (a.toBitVec ||| b.toBitVec).isLt)]
  rfl
theorem dbl_u8 (a : UInt8) : (a.toNat : Int) * (2 : Int) % (256 : Int) = ((a <<< 1).toNat : Int) := by
  rw [UInt8.toNat_shiftLeft, Nat.shiftLeft_eq]
  simp
theorem half_u8 (a : UInt8) : (a.toNat : Int) / (2 : Int) = ((a >>> 1).toNat : Int) := by
  rw [UInt8.toNat_shiftRight, Nat.shiftRight_eq_div_pow]
  simp
theorem u8_eq (a b : UInt8) : ((a.toNat : Int) = (b.toNat : Int)) ↔ a = b := by
  rw [Int.ofNat_inj]
  exact UInt8.toNat_inj
theorem open_u8 {x : Int} (h : (Go.Lit.int .u8 x).wf = true) : ∃ a : UInt8, x = (a.toNat : Int) := by
  simp only [Go.Lit.wf, Go.IntKind.min, Go.IntKind.max, Go.IntKind.bits, Go.IntKind.signed, decide_eq_true_eq, Bool.and_eq_true] at h
  refine ⟨UInt8.ofNat x.toNat, ?_⟩
  simp only [UInt8.toNat_ofNat']
  simp at h
  omega
/-! numbers of 64 bits that are small -/
theorem wrap_i64 (n : Nat) (h : n < 2 ^ 63) : Go.IntKind.i64.wrap (n : Int) = n := by
  rw [Go.IntKind.wrap_i64]
  omega
theorem wrap_u64 (n : Nat) (h : n < 2 ^ 64) : Go.IntKind.u64.wrap (n : Int) = n := by
  simp [Go.IntKind.wrap, Go.IntKind.bits, Go.IntKind.signed]
  omega
theorem ofInt_n (k n : Nat) (h : n < 2 ^ k) : (BitVec.ofInt k (n : Int)).toNat = n := by
  rw [BitVec.ofInt_natCast, BitVec.toNat_ofNat, Nat.mod_eq_of_lt h]
theorem bits_xor_i64 (p q : Nat) (hp : p < 2 ^ 63) (hq : q < 2 ^ 63) : Go.bits .xor .i64 (p : Int) (q : Int) = ((p ^^^ q : Nat) : Int) := by
  show Go.IntKind.i64.wrap ((BitVec.ofInt 64 (p : Int) ^^^ BitVec.ofInt 64 (q : Int)).toNat : Int) = _
  rw [BitVec.toNat_xor, ofInt_n 64 p (by omega), ofInt_n 64 q (by omega), wrap_i64 _ (Nat.xor_lt_two_pow hp hq)]
theorem bits_and_i64 (p q : Nat) (hp : p < 2 ^ 63) (hq : q < 2 ^ 63) : Go.bits .and .i64 (p : Int) (q : Int) = ((p &&& q : Nat) : Int) := by
  show Go.IntKind.i64.wrap ((BitVec.ofInt 64 (p : Int) &&& BitVec.ofInt 64 (q : Int)).toNat : Int) = _
  rw [BitVec.toNat_and, ofInt_n 64 p (by omega), ofInt_n 64 q (by omega), wrap_i64 _ (Nat.and_lt_two_pow _ hq)]
theorem bits_or_i64 (p q : Nat) (hp : p < 2 ^ 63) (hq : q < 2 ^ 63) : Go.bits .or .i64 (p : Int) (q : Int) = ((p ||| q : Nat) : Int) := by
  show Go.IntKind.i64.wrap ((BitVec.ofInt 64 (p : Int) ||| BitVec.ofInt 64 (q : Int)).toNat : Int) = _
  rw [BitVec.toNat_or, ofInt_n 64 p (by omega), ofInt_n 64 q (by omega), wrap_i64 _ (Nat.or_lt_two_pow hp hq)]
theorem bits_xor_u64 (p q : Nat) (hp : p < 2 ^ 64) (hq : q < 2 ^ 64) : Go.bits .xor .u64 (p : Int) (q : Int) = ((p ^^^ q : Nat) : Int) := by
  show Go.IntKind.u64.wrap ((BitVec.ofInt 64 (p : Int) ^^^ BitVec.ofInt 64 (q : Int)).toNat : Int) = _
  rw [BitVec.toNat_xor, ofInt_n 64 p hp, ofInt_n 64 q hq, wrap_u64 _ (Nat.xor_lt_two_pow hp hq)]
theorem bits_and_u64 (p q : Nat) (hp : p < 2 ^ 64) (hq : q < 2 ^ 64) : Go.bits .and .u64 (p : Int) (q : Int) = ((p &&& q : Nat) : Int) := by
  show Go.IntKind.u64.wrap ((BitVec.ofInt 64 (p : Int) &&& BitVec.ofInt 64 (q : Int)).toNat : Int) = _
  rw [BitVec.toNat_and, ofInt_n 64 p hp, ofInt_n 64 q hq, wrap_u64 _ (Nat.and_lt_two_pow _ hq)]
theorem bits_or_u64 (p q : Nat) (hp : p < 2 ^ 64) (hq : q < 2 ^ 64) : Go.bits .or .u64 (p : Int) (q : Int) = ((p ||| q : Nat) : Int) := by
  show Go.IntKind.u64.wrap ((BitVec.ofInt 64 (p : Int) ||| BitVec.ofInt 64 (q : Int)).toNat : Int) = _
  rw [BitVec.toNat_or, ofInt_n 64 p hp, ofInt_n 64 q hq, wrap_u64 _ (Nat.or_lt_two_pow hp hq)]
end Lk
