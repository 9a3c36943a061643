/- AES and codes evaluated at literal bytes: one step at a time. -/
import Derived.Test.YtbbfjlnkhenbiaaDoorKB5
set_option linter.unusedVariables false
set_option linter.unusedSimpArgs false
namespace Lk
open Go.Proofs.YtbbfjlnkhenbiaaDoor
def sbox : List Nat := [99, 124, 119, 123, 242, 107, 111, 197, 48, 1, 103, 43, 254, 215, 171, 118, 202, 130, 201, 125, 250, 89, 71, 240, 173, 212, 162, 175, 156, 164, 114, 192, 183, 253, 147, 38, 54, 63, 247, 204, 52, 165, 229, 241, 113, 216, 49, 21, 4, 199, 35, 195, 24, 150, 5, 154, 7, 18, 128, 226, 235, 39, 178, 117, 9, 131, 44, 26, 27, 110, 90, 160, 82, 59, 214, 179, 41, 227, 47, 132, 83, 209, 0, 237, 32, 252, 177, 91, 106, 203, 190, 57, 74, 76, 88, 207, 208, 239, 170, 251, 67, 77, 51, 133, 69, 249, 2, 127, 80, 60, 159, 168, 81, 163, 64, 143, 146, 157, 56, 245, 188, 182, 218, 33, 16, 255, 243, 210, 205, 12, 19, 236, 95, 151, 68, 23, 196, 167, 126, 61, 100, 93, 25, 115, 96, 129, 79, 220, 34, 42, 144, 136, 70, 238, 184, 20, 222, 94, 11, 219, 224, 50, 58, 10, 73, 6, 36, 92, 194, 211, 172, 98, 145, 149, 228, 121, 231, 200, 55, 109, 141, 213, 78, 169, 108, 86, 244, 234, 101, 122, 174, 8, 186, 120, 37, 46, 28, 166, 180, 198, 232, 221, 116, 31, 75, 189, 139, 138, 112, 62, 181, 102, 72, 3, 246, 14, 97, 53, 87, 185, 134, 193, 29, 158, 225, 248, 152, 17, 105, 217, 142, 148, 155, 30, 135, 233, 206, 85, 40, 223, 140, 161, 137, 13, 191, 230, 66, 104, 65, 153, 45, 15, 176, 84, 187, 22]
def tbox (a : UInt8) : UInt8 := UInt8.ofNat (sbox.getD a.toNat 0)
theorem sbox_all : allN (fun a => Nat.beq (gboxN a) (sbox.getD a 0)) = true := by decide +kernel
theorem gbox_tbox : gbox = tbox := by
  funext a
  have := allN_spec sbox_all a
  have h := Nat.eq_of_beq_eq_true this
  rw [← gbox_N] at h
  unfold tbox
  rw [← h]; simp
def wturnT (nk i : Nat) (p : UInt8) (t : List UInt8) : List UInt8 :=
  if i % nk = 0 then [tbox (g8 t 1) ^^^ p, tbox (g8 t 2), tbox (g8 t 3), tbox (g8 t 0)]
  else if nk = 8 ∧ i % 8 = 4 then [tbox (g8 t 0), tbox (g8 t 1), tbox (g8 t 2), tbox (g8 t 3)] else t
def wstepT (nk j : Nat) (s : List UInt8 × UInt8) : List UInt8 × UInt8 :=
  (wnext nk s.1 (wturnT nk (nk + j) s.2 (s.1.drop (s.1.length - 4))), if (nk + j) % nk = 0 then gmul s.2 2 else s.2)
theorem wst_T {key : List UInt8} {j nk : Nat} {s : List UInt8 × UInt8} (h : wst key j = s) (hk : key.length / 4 = nk) : wst key (j + 1) = wstepT nk j s := by
  subst hk
  simp only [wst, h, wstepT, wturn, wturnT, gbox_tbox]
def encT (ws b : List UInt8) (n k : Nat) : List UInt8 :=
  pwith (if k + 1 < n then pcols [2, 3, 1, 1] (prows (pboxes tbox b) 1) else prows (pboxes tbox b) 1) ws (k + 1)
theorem enc_T {ws b s : List UInt8} {n k : Nat} (h : encTo ws b n k = s) : encTo ws b n (k + 1) = encT ws s n k := by
  simp only [encTo, h, encT, gbox_tbox]
end Lk
