/- The reference's boxes of all bytes are the program's. -/
import Derived.Test.YtpfmhohldfnhmaaKM0
import Derived.Test.YtpfmhohldfnhmaaKB2
import Derived.Test.YtpfmhohldfnhmaaKB3
import Derived.StillTailTactics
import Derived.Test.YtpfmhohldfnhmaaKB6
import Derived.Test.YtpfmhohldfnhmaaKG0
set_option linter.unusedVariables false
set_option linter.unusedSimpArgs false
namespace Lk
open Go.Proofs.Ytpfmhohldfnhmaa
set_option maxRecDepth 100000 in
/-- the powers of 3 -/
def eT : List Nat := [1, 3, 5, 15, 17, 51, 85, 255, 26, 46, 114, 150, 161, 248, 19, 53, 95, 225, 56, 72, 216, 115, 149, 164, 247, 2, 6, 10, 30, 34, 102, 170, 229, 52, 92, 228, 55, 89, 235, 38, 106, 190, 217, 112, 144, 171, 230, 49, 83, 245, 4, 12, 20, 60, 68, 204, 79, 209, 104, 184, 211, 110, 178, 205, 76, 212, 103, 169, 224, 59, 77, 215, 98, 166, 241, 8, 24, 40, 120, 136, 131, 158, 185, 208, 107, 189, 220, 127, 129, 152, 179, 206, 73, 219, 118, 154, 181, 196, 87, 249, 16, 48, 80, 240, 11, 29, 39, 105, 187, 214, 97, 163, 254, 25, 43, 125, 135, 146, 173, 236, 47, 113, 147, 174, 233, 32, 96, 160, 251, 22, 58, 78, 210, 109, 183, 194, 93, 231, 50, 86, 250, 21, 63, 65, 195, 94, 226, 61, 71, 201, 64, 192, 91, 237, 44, 116, 156, 191, 218, 117, 159, 186, 213, 100, 172, 239, 42, 126, 130, 157, 188, 223, 122, 142, 137, 128, 155, 182, 193, 88, 232, 35, 101, 175, 234, 37, 111, 177, 200, 67, 197, 84, 252, 31, 33, 99, 165, 244, 7, 9, 27, 45, 119, 153, 176, 203, 70, 202, 69, 207, 74, 222, 121, 139, 134, 145, 168, 227, 62, 66, 198, 81, 243, 14, 18, 54, 90, 238, 41, 123, 141, 140, 143, 138, 133, 148, 167, 242, 13, 23, 57, 75, 221, 124, 132, 151, 162, 253, 28, 36, 108, 180, 199, 82, 246]
def epow : Nat → UInt8
  | 0 => 1
  | i + 1 => gmul (epow i) 3
set_option maxRecDepth 100000 in
theorem eT_all : (List.range 254).all (fun i => Nat.beq (gmulN (eT.getD i 0) 3) (eT.getD (i + 1) 0)) = true := by decide +kernel
theorem epow_T : ∀ i, i < 255 → (epow i).toNat = eT.getD i 0
  | 0, _ => rfl
  | i + 1, h => by
    have h1 := List.all_eq_true.1 eT_all i (List.mem_range.2 (by omega))
    rw [epow, gmul_N, epow_T i (by omega)]
    exact Nat.eq_of_beq_eq_true h1
set_option maxRecDepth 100000 in
/-- the boxes, those of the first k powers laid -/
def bx : Nat → List UInt8
  | 0 => (List.replicate 256 0).set 0 (gaff 0)
  | i + 1 => (bx i).set (epow i).toNat (gaff (epow ((255 - i) % 255)))
set_option maxRecDepth 100000 in
def bxN : Nat → List Nat
  | 0 => (List.replicate 256 0).set 0 99
  | i + 1 => (bxN i).set (eT.getD i 0) (gaffN (eT.getD ((255 - i) % 255) 0))
set_option maxRecDepth 100000 in
theorem bx_N : ∀ i, i ≤ 255 → (bx i).map UInt8.toNat = bxN i
  | 0, _ => by decide +kernel
  | i + 1, h => by
    rw [bx, bxN, List.map_set, bx_N i (by omega), epow_T i (by omega), gaff_N, epow_T _ (Nat.mod_lt _ (by decide))]
set_option maxRecDepth 100000 in
theorem bxN_255 : bxN 255 = sbox := by decide +kernel
theorem bx_len (i : Nat) : (bx i).length = 256 := by
  induction i with
  | zero => rw [bx, List.length_set, List.length_replicate]
  | succ i ih => rw [bx, List.length_set, ih]
theorem bx_at (x : UInt8) : g8 (bx 255) x.toNat = gbox x := by
  have hx := x.toNat_lt
  have h1 : ((bx 255).map UInt8.toNat).getD x.toNat 0 = sbox.getD x.toNat 0 := by rw [bx_N 255 (by decide), bxN_255]
  have h2 := Nat.eq_of_beq_eq_true (allN_spec sbox_all x)
  rw [← gbox_N, ← h1] at h2
  apply UInt8.toNat_inj.1
  rw [h2]
  unfold g8
  simp only [List.getD_eq_getElem?_getD, List.getElem?_map]
  rw [List.getElem?_eq_getElem (by rw [bx_len]; exact hx), Option.map_some, Option.getD_some, Option.getD_some]
end Lk
set_option linter.unusedVariables false
set_option linter.unusedSimpArgs false
namespace Lk
open Go Go.RowKit
/-- the sum of bits, k products more -/
def rmIn (a b i p : Nat) : Nat → Nat
  | 0 => p
  | k + 1 => Nat.xor (rmIn a b i p k) (tm a b i k)
def rmOut (a b : Nat) : Nat → Nat
  | 0 => 0
  | i + 1 => rmIn a b i (rmOut a b i) 8
def rmRed (p : Nat) : Nat → Nat
  | 0 => p
  | k + 1 => Nat.xor (rmRed p k) (rt (rmRed p k) (6 - k))
theorem rmIn_eq (a b i p : Nat) : rmIn a b i p 8 = rinner 8 a b i p := rfl
theorem rmOut_eq (a b : Nat) : rmOut a b 8 = router 8 a b 0 := by
  simp only [rmOut, rmIn_eq, router]
theorem rmRed_eq (p : Nat) : rmRed p 7 = rred 7 p := rfl
theorem xor_lt15 (p q : Nat) (hp : p < 2 ^ 15) (hq : q < 2 ^ 15) : Nat.xor p q < 2 ^ 15 := Nat.xor_lt_two_pow hp hq
theorem tm_lt (a b i j : Nat) (h : i + j < 15) : tm a b i j < 2 ^ 15 := by
  unfold tm
  cases (Nat.testBit a i && Nat.testBit b j)
  · exact (by decide : (0 : Nat) < 2 ^ 15)
  · show (1 <<< (i + j) : Nat) < 2 ^ 15
    rw [Nat.shiftLeft_eq, Nat.one_mul]
    exact Nat.pow_lt_pow_right (by decide) h
theorem rt_lt (p n : Nat) (h : n < 7) : rt p n < 2 ^ 15 := by
  unfold rt
  cases Nat.testBit p (n + 8)
  · exact (by decide : (0 : Nat) < 2 ^ 15)
  · show (283 <<< n : Nat) < 2 ^ 15
    rw [Nat.shiftLeft_eq]
    have : 2 ^ n ≤ 2 ^ 6 := Nat.pow_le_pow_right (by decide) (by omega)
    have : 283 * 2 ^ n ≤ 283 * 2 ^ 6 := Nat.mul_le_mul_left _ this
    omega
theorem rmIn_lt (a b i p : Nat) (hp : p < 2 ^ 15) (hi : i < 8) : ∀ k, k ≤ 8 → rmIn a b i p k < 2 ^ 15
  | 0, _ => hp
  | k + 1, h => xor_lt15 _ _ (rmIn_lt a b i p hp hi k (by omega)) (tm_lt _ _ _ _ (by omega))
theorem rmOut_lt (a b : Nat) : ∀ i, i ≤ 8 → rmOut a b i < 2 ^ 15
  | 0, _ => (by decide : (0 : Nat) < 2 ^ 15)
  | i + 1, h => rmIn_lt _ _ _ _ (rmOut_lt a b i (by omega)) (by omega) 8 (by decide)
theorem rmRed_lt (p : Nat) (hp : p < 2 ^ 15) : ∀ k, k ≤ 7 → rmRed p k < 2 ^ 15
  | 0, _ => hp
  | k + 1, h => xor_lt15 _ _ (rmRed_lt p hp k (by omega)) (rt_lt _ _ (by omega))
theorem and_bitN (x i : Nat) (hx : x < 2 ^ 62) : Go.bits .and .i64 ((x : Int) / (2 : Int) ^ i) 1 = if Nat.testBit x i = true then 1 else 0 := by
  have h : ((x : Int) / (2 : Int) ^ i) = ((x / 2 ^ i : Nat) : Int) := by norm_cast
  have hd := Nat.div_le_self x (2 ^ i)
  rw [h, show (1 : Int) = ((1 : Nat) : Int) from rfl, bits_and_i64 _ _ (by omega) (by omega), Nat.and_one_is_mod, ← Nat.toNat_testBit]
  cases Nat.testBit x i <;> rfl
theorem and_bit8 (x : UInt8) (i : Nat) : Go.bits .and .i64 (bv x / (2 : Int) ^ i) 1 = if Nat.testBit x.toNat i = true then 1 else 0 :=
  and_bitN x.toNat i (by have := x.toNat_lt; omega)
theorem xor_shl (p x n : Nat) (hp : p < 2 ^ 15) (h : Nat.shiftLeft x n < 2 ^ 15) : Go.bits .xor .i64 (p : Int) (IntKind.i64.wrap ((x : Int) * (2 : Int) ^ n)) = ((Nat.xor p (Nat.shiftLeft x n) : Nat) : Int) := by
  have e : ((x : Int) * (2 : Int) ^ n) = ((x * 2 ^ n : Nat) : Int) := by norm_cast
  have e2 : Nat.shiftLeft x n = x * 2 ^ n := Nat.shiftLeft_eq x n
  rw [e2] at h ⊢
  rw [e, wrap_i64 _ (by omega), bits_xor_i64 _ _ (by omega) (by omega)]
  rfl
/-! the box of an inverse, bit by bit -/
def afS (b i : Nat) : Nat → Nat
  | 0 => 99 / 2 ^ i
  | k + 1 => Nat.xor (afS b i k) (b / 2 ^ ((i + (4 + k)) % 8))
def afO (b : Nat) : Nat → Nat
  | 0 => 0
  | i + 1 => Nat.lor (afO b i) (afS b i 5 % 2 * 2 ^ i)
theorem afS_lt (b i : Nat) (hb : b < 256) : ∀ k, afS b i k < 256
  | 0 => Nat.lt_of_le_of_lt (Nat.div_le_self _ _) (by decide)
  | k + 1 => Nat.xor_lt_two_pow (n := 8) (afS_lt b i hb k) (Nat.lt_of_le_of_lt (Nat.div_le_self _ _) hb)
theorem afO_lt (b : Nat) : ∀ i, i ≤ 8 → afO b i < 2 ^ i
  | 0, _ => (by decide : (0 : Nat) < 2 ^ 0)
  | i + 1, h => by
    have h1 := afO_lt b i (by omega)
    refine Nat.or_lt_two_pow (by rw [Nat.pow_succ]; omega) ?_
    have : afS b i 5 % 2 * 2 ^ i ≤ 1 * 2 ^ i := Nat.mul_le_mul_right _ (by omega)
    have := Nat.two_pow_pos i
    rw [Nat.pow_succ]; omega
theorem afO_all : allN (fun b => Nat.beq (afO b 8) (gaffN b)) = true := by decide +kernel
theorem afO_eq (b : UInt8) : afO b.toNat 8 = (gaff b).toNat := by
  have := Nat.eq_of_beq_eq_true (allN_spec afO_all b)
  rw [this, gaff_N]
theorem xor_shr (x n : Nat) (b : UInt8) (hx : x < 256) : Go.bits .xor .i64 (x : Int) (bv b / (2 : Int) ^ n) = ((Nat.xor x (b.toNat / 2 ^ n) : Nat) : Int) := by
  have h : bv b / (2 : Int) ^ n = ((b.toNat / 2 ^ n : Nat) : Int) := by unfold bv; norm_cast
  have hb := b.toNat_lt
  have hd := Nat.div_le_self b.toNat (2 ^ n)
  rw [h, bits_xor_i64 _ _ (by omega) (by omega)]
  rfl
theorem or_bitN (o s n : Nat) (ho : o < 256) (hs : s < 256) (hn : n < 8) : Go.bits .or .i64 (o : Int) (wrap64 (Go.bits .and .i64 (s : Int) 1 * (2 : Int) ^ n)) = ((Nat.lor o (s % 2 * 2 ^ n) : Nat) : Int) := by
  rw [show (1 : Int) = ((1 : Nat) : Int) from rfl, bits_and_i64 _ _ (by omega) (by omega), Nat.and_one_is_mod]
  have e : (((s % 2 : Nat) : Int) * (2 : Int) ^ n) = ((s % 2 * 2 ^ n : Nat) : Int) := by norm_cast
  have hp : 2 ^ n ≤ 2 ^ 7 := Nat.pow_le_pow_right (by decide) (by omega)
  have hm : s % 2 * 2 ^ n ≤ 1 * 2 ^ n := Nat.mul_le_mul_right _ (by omega)
  have hw : wrap64 ((s % 2 * 2 ^ n : Nat) : Int) = ((s % 2 * 2 ^ n : Nat) : Int) := by unfold wrap64; omega
  rw [e, hw, bits_or_i64 _ _ (by omega) (by omega)]
  rfl
end Lk
namespace Go.Proofs.Ytpfmhohldfnhmaa
open Go Go.RowKit Lk
end Go.Proofs.Ytpfmhohldfnhmaa
set_option linter.unusedVariables false
set_option linter.unusedSimpArgs false
namespace Lk
open Go.Proofs.Ytpfmhohldfnhmaa
def gpw : Nat → UInt8
  | 0 => 1
  | k + 1 => gmul (gpw k) 2
theorem wst_pow (key : List UInt8) (nk : Nat) (hk : key.length / 4 = nk) (h : nk = 4 ∨ nk = 6 ∨ nk = 8) : ∀ j, (wst key j).2 = gpw ((nk + j - 1) / nk)
  | 0 => by
    have : (nk + 0 - 1) / nk = 0 := Nat.div_eq_of_lt (by omega)
    rw [this]; rfl
  | j + 1 => by
    have ih := wst_pow key nk hk h j
    simp only [wst, hk, ih]
    by_cases hm : (nk + j) % nk = 0
    · rw [if_pos hm, show (nk + (j + 1) - 1) / nk = (nk + j - 1) / nk + 1 by rcases h with rfl | rfl | rfl <;> omega]; rfl
    · rw [if_neg hm, show (nk + (j + 1) - 1) / nk = (nk + j - 1) / nk by rcases h with rfl | rfl | rfl <;> omega]
theorem wst_pow_at (key : List UInt8) (nk m : Nat) (hk : key.length / 4 = nk) (h : nk = 4 ∨ nk = 6 ∨ nk = 8) (hm : nk ≤ m) (h0 : m % nk = 0) : (wst key (m - nk)).2 = gpw (m / nk - 1) := by
  rw [wst_pow key nk hk h, show nk + (m - nk) - 1 = m - 1 by omega]
  congr 1
  rcases h with rfl | rfl | rfl <;> omega
/-- the first k of n bytes are turned -/
def updn (n : Nat) (f : Nat → UInt8) (b : List UInt8) (k : Nat) : List UInt8 := (List.range n).map fun i => if i < k then f i else g8 b i
theorem updn_len (n : Nat) (f : Nat → UInt8) (b : List UInt8) (k : Nat) : (updn n f b k).length = n := by simp [updn]
theorem updn_zero (n : Nat) (f : Nat → UInt8) (b : List UInt8) (hb : b.length = n) : updn n f b 0 = b := by
  apply List.ext_getElem
  · rw [updn_len, hb]
  · intro i h1 h2
    simp [updn, g8, h2]
theorem updn_at (n : Nat) (f : Nat → UInt8) (b : List UInt8) (k i : Nat) (hi : i < n) : g8 (updn n f b k) i = if i < k then f i else g8 b i := by
  simp [updn, g8, hi]
theorem updn_set (n : Nat) (f : Nat → UInt8) (b : List UInt8) (k : Nat) (hk : k < n) : (updn n f b k).set k (f k) = updn n f b (k + 1) := by
  apply List.ext_getElem
  · simp [updn]
  · intro i h1 h2
    rw [List.getElem_set]
    simp only [updn, List.getElem_map, List.getElem_range]
    by_cases h : k = i
    · subst h; rw [if_pos rfl, if_pos (by omega)]
    · rw [if_neg h]
      by_cases h3 : i < k
      · rw [if_pos h3, if_pos (by omega)]
      · rw [if_neg h3, if_neg (by omega)]
theorem upd_all (f g : Nat → UInt8) (b c : List UInt8) (h : ∀ i, i < 16 → f i = g i) : upd f b 16 = upd g c 16 := by
  unfold upd
  apply List.map_congr_left
  intro i hi
  have := List.mem_range.1 hi
  rw [if_pos this, if_pos this, h i this]
/-- boxes and rows in one -/
def rsubAt (b : List UInt8) (i : Nat) : UInt8 := gbox (g8 b (4 * ((i / 4 + i % 4) % 4) + i % 4))
theorem rsub_eq (b s : List UInt8) : upd (rsubAt b) s 16 = prows (pboxes gbox b) 1 := by
  unfold prows
  refine upd_all _ _ _ _ fun i hi => ?_
  unfold rsubAt prowsAt pboxes
  rw [upd_at _ _ _ _ (by omega), if_pos (by omega)]
  congr 2; omega
def rmixAt (t : List UInt8) (i : Nat) : UInt8 := ((gmul 2 (g8 t i) ^^^ gmul 3 (g8 t (4 * (i / 4) + (i % 4 + 1) % 4))) ^^^ g8 t (4 * (i / 4) + (i % 4 + 2) % 4)) ^^^ g8 t (4 * (i / 4) + (i % 4 + 3) % 4)
theorem rmix_eq (t s : List UInt8) : upd (rmixAt t) s 16 = pcols [2, 3, 1, 1] t := by
  unfold pcols
  refine upd_all _ _ _ _ fun i hi => ?_
  unfold rmixAt
  simp only [colTo]
  rw [UInt8.zero_xor, show g8 [2, 3, 1, 1] 0 = 2 from rfl, show g8 [2, 3, 1, 1] 1 = 3 from rfl, show g8 [2, 3, 1, 1] 2 = 1 from rfl, show g8 [2, 3, 1, 1] 3 = 1 from rfl, one_gmul, one_gmul,
    show i / 4 * 4 + (i % 4 + 0) % 4 = i by omega, Nat.mul_comm 4 (i / 4)]
theorem rwith_eq (s ws b : List UInt8) (r : Nat) : upd (fun i => g8 s i ^^^ g8 ws (16 * r + i)) b 16 = pwith s ws r := by
  unfold pwith
  exact upd_all _ _ _ _ fun i hi => rfl
end Lk
set_option linter.unusedVariables false
set_option linter.unusedSimpArgs false
namespace Lk
theorem bx_succ (i : Nat) : bx (i + 1) = (bx i).set (epow i).toNat (gaff (epow ((255 - i) % 255))) := rfl
end Lk
namespace Go.Proofs.Ytpfmhohldfnhmaa
open Go Go.RowKit Lk
end Go.Proofs.Ytpfmhohldfnhmaa
set_option linter.unusedVariables false
set_option linter.unusedSimpArgs false
namespace Lk
open Go Go.RowKit
def w4t : Nat := 124
/-- a slice of the call's own that holds n words, laid one behind the other -/
def OwnW (w : World) (base : Nat) (v : Value) (n : Nat) (l : List UInt8) : Prop := w.ownsRow base w4t 4 v n (Bl l)
theorem OwnW.len {w : World} {base n : Nat} {v : Value} {l : List UInt8} (h : OwnW w base v n l) : l.length = n * 4 := by
  have := h.1; rwa [Bl_len] at this
theorem OwnW.lt {w : World} {base n : Nat} {v : Value} {l : List UInt8} (h : OwnW w base v n l) : ∀ k, v.ownBlock = some k → base ≤ k ∧ k < w.heap.size := World.ownsRow.lt h
theorem OwnW.kept {w w' : World} {base n : Nat} {v : Value} {l : List UInt8} {row : Option Nat} (h : OwnW w base v n l) (hg : w.grownBy w' row) (hne : v.ownBlock = none ∨ v.ownBlock ≠ row) : OwnW w' base v n l := World.ownsRow.kept h hg hne
theorem OwnW.alloc {w : World} {base n : Nat} {v : Value} {l : List UInt8} (h : OwnW w base v n l) (o : Obj) : OwnW (w.alloc o) base v n l := World.ownsRow.alloc h o
theorem OwnW.drew {w : World} {base n : Nat} {v : Value} {l : List UInt8} (h : OwnW w base v n l) : OwnW w.drew base v n l := h
theorem OwnW.under {w w1 : World} {base n : Nat} {v : Value} {l : List UInt8} (h : OwnW w base v n l) (hL : Below w.heap.size w w1) : OwnW w1 base v n l :=
  ⟨h.1, h.2.imp id fun ⟨g, cap, cur, e, hg, r, s⟩ => ⟨g, cap, cur, e, hg, by
    have hlt : g < w.heap.size := (Array.getElem?_eq_some_iff.1 r).1
    rw [hL.block g hlt]; exact r, s⟩⟩
theorem OwnW.nil (w : World) (base : Nat) : OwnW w base (.slice none 0 0) 0 [] := ⟨rfl, .inl ⟨rfl, rfl⟩⟩
theorem OwnW.form {w : World} {base n : Nat} {v : Value} {l : List UInt8} (h : OwnW w base v n l) (hn : 0 < n) : ∃ g cap, v = .slice (some ⟨g, 0, none⟩) n cap ∧ base ≤ g ∧ g < w.heap.size ∧ Rd w g 0 l ∧ n ≤ cap ∧ cap ≤ maxLen := by
  have hx := h
  rcases h.2 with ⟨_, h0⟩ | ⟨g, cap, cur, rfl, hb, hg, h1, h2, _, _⟩
  · omega
  · refine ⟨g, cap, rfl, hb, (Array.getElem?_eq_some_iff.1 hg).1, fun k hk => ?_, h1, h2⟩
    rw [Nat.zero_add, World.ownsRow.cellAt (h := hx) k (by rw [← hx.len]; exact hk)]
    exact Bl_get' l k hk
theorem OwnW.ne_blk {w : World} {base n g2 T : Nat} {g cap : Nat} {l l2 : List UInt8} (h : OwnW w base (.slice (some ⟨g, 0, none⟩) n cap) n l) (hB : Blk w g2 T l2) (hT : w4t ≠ T) : g ≠ g2 := by
  rintro rfl
  rcases h.2 with ⟨e, _⟩ | ⟨g', cap', cur, e, _, hg, _⟩
  · cases e
  · cases e
    unfold Blk at hB
    rw [hg] at hB
    injection hB with hB
    injection hB with _ ht
    exact hT ht
theorem OwnW.ne_own {w : World} {base n g2 T : Nat} {v : Value} {l l2 : List UInt8} (h : OwnW w base v n l) (hB : Blk w g2 T l2) (hT : w4t ≠ T) : v.ownBlock ≠ some g2 := by
  rcases h.2 with ⟨rfl, _⟩ | ⟨g', cap', cur, rfl, _, hg, _⟩
  · simp [Value.ownBlock]
  · intro e
    have : g' = g2 := by simpa [Value.ownBlock] using e
    subst this
    unfold Blk at hB
    rw [hg] at hB
    injection hB with hB
    injection hB with _ ht
    exact hT ht
section
variable {P : Program} {ops : Array Oper} {rest : List Oper} {o : Oper} {a : Act} {w : World} {Q : Exit → Act → World → Prop}
theorem op_word (hgd : o.guard = none) (T n : Nat) (x : Operand) (ho : o.op = .buildSlice T n #[(0, x)]) (v : Value) (w1 : World) (h : (execOp a.eval o).run P w = .ok (.value v) w1) (hk : wpList P ops Q rest (a.put o.dst v) w1) : wpList P ops Q (o :: rest) a w :=
  wpList_plain hgd fun _ hK => by
    unfold Oper.wp
    rw [h]
    exact hK _ _ hk
theorem list4 (l : List UInt8) (h : l.length = 4) : ∃ a b c d, l = [a, b, c, d] := by
  match l, h with
  | [a, b, c, d], _ => exact ⟨a, b, c, d, rfl⟩
/-- four cells that have just been laid -/
theorem rd_lit (w : World) (T : TypeId) (a b c d : UInt8) : Rd (w.alloc (.cells #[.int .u8 (bv a), .int .u8 (bv b), .int .u8 (bv c), .int .u8 (bv d)] T)) w.heap.size 0 [a, b, c, d] := fun k hk => by
  rw [Nat.zero_add]
  have : (w.alloc (.cells #[.int .u8 (bv a), .int .u8 (bv b), .int .u8 (bv c), .int .u8 (bv d)] T)).heap[w.heap.size]? = some (.cells (Bs [a, b, c, d]) T (0, 0)) := heap_alloc_new w _
  rw [cell_of_row _ _ k _ T _ this]
  exact Bs_get _ k hk
theorem rd_bs (w : World) (T : TypeId) (l : List UInt8) : Rd (w.alloc (.cells (Bs l) T)) w.heap.size 0 l := fun k hk => by
  rw [Nat.zero_add]
  have : (w.alloc (.cells (Bs l) T)).heap[w.heap.size]? = some (.cells (Bs l) T (0, 0)) := heap_alloc_new w _
  rw [cell_of_row _ _ k _ T _ this]
  exact Bs_get _ k hk
end
section
variable {P : Program} {ops : Array Oper} {o : Oper} {a : Act} {w : World}
/-- an index into a slice, the index told -/
theorem yields_ix {S : World → Prop} (hw : Region.wanted o (yielded ops a.tmps) = true) (t : TypeId) (x y : Operand) (ho : o.op = .indexAddr t x y) (g k L c j sz : Nat) (i : Int) (hx : a.eval x = .slice (some ⟨g, k, none⟩) L c) (hy : a.eval y = .int .i64 i) (hi : i = (j : Int)) (hj : j < L) (p : Nat) (hp : k + j * sz = p)
    (hu : P.underlying t = some (.slice (P.elem t))) (hs : ∀ w : World, (sizeOf (P.elem t) : Sem Nat).run P w = .ok sz w) : YieldsIf P ops S o (.pointer (some ⟨g, p, none⟩)) a := .inl ⟨hw, fun w _ => by
    subst hi hp
    unfold execOp
    simp only [ho, hx, hy]
    rw [Sem.run_bind, run_indexAt_slice w t _ _ _ _ _ hu, if_pos ⟨by omega, by omega⟩, hs, Result.andThen_ok, Int.toNat_natCast]
    have e : (⟨g, k, none⟩ : Addr).add (j * sz) = ⟨g, k + j * sz, none⟩ := by unfold Addr.add; split <;> simp_all
    rw [e]
    rfl⟩
theorem yields_ixa {S : World → Prop} (hw : Region.wanted o (yielded ops a.tmps) = true) (t : TypeId) (x y : Operand) (ho : o.op = .indexAddr t x y) (g k j sz : Nat) (i : Int) (hx : a.eval x = .pointer (some ⟨g, k, none⟩)) (hy : a.eval y = .int .i64 i) (hi : i = (j : Int)) (hj : j < P.arrayLen t) (p : Nat) (hp : k + j * sz = p)
    (hu : P.underlying t = some (.array (P.arrayLen t) (P.elem t))) (hs : ∀ w : World, (sizeOf (P.elem t) : Sem Nat).run P w = .ok sz w) : YieldsIf P ops S o (.pointer (some ⟨g, p, none⟩)) a := .inl ⟨hw, fun w _ => by
    subst hi hp
    unfold execOp
    simp only [ho, hx, hy]
    rw [Sem.run_bind, run_indexAt_array w t _ _ _ hu, if_pos ⟨by omega, by omega⟩, hs, Result.andThen_ok, Int.toNat_natCast]
    have e : (⟨g, k, none⟩ : Addr).add (j * sz) = ⟨g, k + j * sz, none⟩ := by unfold Addr.add; split <;> simp_all
    rw [e]
    rfl⟩
/-- a byte that is read -/
theorem yields_byte {S : World → Prop} (hw : Region.wanted o (yielded ops a.tmps) = true) (u : UInt8) (ty : TypeId) (x : Operand) (ho : o.op = .load ty x) (g k : Nat) (hx : a.eval x = .pointer (some ⟨g, k, none⟩)) (hl : ∀ (w : World) (y : Int), w.cell? ⟨g, k, none⟩ = some (.int .u8 y) → (loadVar ty ⟨g, k, none⟩ : Sem Value).run P w = .ok (.int .u8 y) w)
    (hc : ∀ w, S w → w.cell? ⟨g, k, none⟩ = some (.int .u8 (bv u))) : YieldsIf P ops S o (.int .u8 (bv u)) a := .inl ⟨hw, fun w hS => by
    unfold execOp
    simp only [ho, hx, Instr.loadAt, Instr.sureAddr, Sem.run_bind, Sem.run_pure, Result.andThen_ok, hl w _ (hc w hS)]⟩
end
theorem take4 (l : List UInt8) (k : Nat) (h : 4 * k + 4 ≤ l.length) : l.take (4 * (k + 1)) = l.take (4 * k) ++ [g8 l (4 * k), g8 l (4 * k + 1), g8 l (4 * k + 2), g8 l (4 * k + 3)] := by
  rw [show 4 * (k + 1) = 4 * k + 3 + 1 by omega, take_one l _ (by omega), show 4 * k + 3 = 4 * k + 2 + 1 by omega, take_one l _ (by omega), show 4 * k + 2 = 4 * k + 1 + 1 by omega, take_one l _ (by omega), take_one l _ (by omega)]
  simp
end Lk
namespace Go.Proofs.Ytpfmhohldfnhmaa
open Go Go.RowKit Lk
theorem load_u8 (w : World) (ad : Addr) (y : Value) (h : w.cell? ad = some y) : (loadVar 5 ad : Sem Value).run Try.prog w = .ok y w := by
  simp [loadVar, go_sem, h]
theorem hi_w4 : (Try.prog.info? w4t).map (fun i => (i.zero, i.size, i.bytes)) = some (some (.agg (Bs (List.replicate 4 0))), 4, 4) := by kernel_rfl
end Go.Proofs.Ytpfmhohldfnhmaa
set_option linter.unusedVariables false
set_option linter.unusedSimpArgs false
namespace Lk
/-- the bytes of a word turned by those of another one -/
def wx (W t : List UInt8) (n k : Nat) : UInt8 := g8 t k ^^^ g8 W (n + k)
theorem wx_next (nk m : Nat) (W t : List UInt8) (h : W.length = 4 * m) (hm : nk ≤ m) (ht : t.length = 4) : W ++ updn 4 (wx W t (4 * (m - nk))) t 4 = wnext nk W t := by
  unfold wnext
  have e : W.length - 4 * nk = 4 * (m - nk) := by omega
  simp only [e]
  congr 1
  show [wx W t (4 * (m - nk)) 0, wx W t (4 * (m - nk)) 1, wx W t (4 * (m - nk)) 2, wx W t (4 * (m - nk)) 3] = _
  unfold wx
  simp only [Nat.add_zero]
  rw [UInt8.xor_comm (g8 t 0), UInt8.xor_comm (g8 t 1), UInt8.xor_comm (g8 t 2), UInt8.xor_comm (g8 t 3)]
end Lk
