/- The tables of DES, as numbers. -/
import Derived.Test.YtbbfjlnkhenbiaaDoorKB0
import Derived.Great.BuildSlice
import Derived.Deep.MidRow
import Derived.Laws.IdiomCopy
set_option linter.unusedVariables false
set_option linter.unusedSimpArgs false
namespace Lk
open Go
def tabIP : List Nat := [58, 50, 42, 34, 26, 18, 10, 2, 60, 52, 44, 36, 28, 20, 12, 4, 62, 54, 46, 38, 30, 22, 14, 6, 64, 56, 48, 40, 32, 24, 16, 8, 57, 49, 41, 33, 25, 17, 9, 1, 59, 51, 43, 35, 27, 19, 11, 3, 61, 53, 45, 37, 29, 21, 13, 5, 63, 55, 47, 39, 31, 23, 15, 7]
def tabP : List Nat := [16, 7, 20, 21, 29, 12, 28, 17, 1, 15, 23, 26, 5, 18, 31, 10, 2, 8, 24, 14, 32, 27, 3, 9, 19, 13, 30, 6, 22, 11, 4, 25]
def tabPC1 : List Nat := [57, 49, 41, 33, 25, 17, 9, 1, 58, 50, 42, 34, 26, 18, 10, 2, 59, 51, 43, 35, 27, 19, 11, 3, 60, 52, 44, 36, 63, 55, 47, 39, 31, 23, 15, 7, 62, 54, 46, 38, 30, 22, 14, 6, 61, 53, 45, 37, 29, 21, 13, 5, 28, 20, 12, 4]
def tabPC2 : List Nat := [14, 17, 11, 24, 1, 5, 3, 28, 15, 6, 21, 10, 23, 19, 12, 4, 26, 8, 16, 7, 27, 20, 13, 2, 41, 52, 31, 37, 47, 55, 30, 40, 51, 45, 33, 48, 44, 49, 39, 56, 34, 53, 46, 42, 50, 36, 29, 32]
def boxTab : List (List Nat) := [[14, 4, 13, 1, 2, 15, 11, 8, 3, 10, 6, 12, 5, 9, 0, 7, 0, 15, 7, 4, 14, 2, 13, 1, 10, 6, 12, 11, 9, 5, 3, 8, 4, 1, 14, 8, 13, 6, 2, 11, 15, 12, 9, 7, 3, 10, 5, 0, 15, 12, 8, 2, 4, 9, 1, 7, 5, 11, 3, 14, 10, 0, 6, 13],
  [15, 1, 8, 14, 6, 11, 3, 4, 9, 7, 2, 13, 12, 0, 5, 10, 3, 13, 4, 7, 15, 2, 8, 14, 12, 0, 1, 10, 6, 9, 11, 5, 0, 14, 7, 11, 10, 4, 13, 1, 5, 8, 12, 6, 9, 3, 2, 15, 13, 8, 10, 1, 3, 15, 4, 2, 11, 6, 7, 12, 0, 5, 14, 9],
  [10, 0, 9, 14, 6, 3, 15, 5, 1, 13, 12, 7, 11, 4, 2, 8, 13, 7, 0, 9, 3, 4, 6, 10, 2, 8, 5, 14, 12, 11, 15, 1, 13, 6, 4, 9, 8, 15, 3, 0, 11, 1, 2, 12, 5, 10, 14, 7, 1, 10, 13, 0, 6, 9, 8, 7, 4, 15, 14, 3, 11, 5, 2, 12],
  [7, 13, 14, 3, 0, 6, 9, 10, 1, 2, 8, 5, 11, 12, 4, 15, 13, 8, 11, 5, 6, 15, 0, 3, 4, 7, 2, 12, 1, 10, 14, 9, 10, 6, 9, 0, 12, 11, 7, 13, 15, 1, 3, 14, 5, 2, 8, 4, 3, 15, 0, 6, 10, 1, 13, 8, 9, 4, 5, 11, 12, 7, 2, 14],
  [2, 12, 4, 1, 7, 10, 11, 6, 8, 5, 3, 15, 13, 0, 14, 9, 14, 11, 2, 12, 4, 7, 13, 1, 5, 0, 15, 10, 3, 9, 8, 6, 4, 2, 1, 11, 10, 13, 7, 8, 15, 9, 12, 5, 6, 3, 0, 14, 11, 8, 12, 7, 1, 14, 2, 13, 6, 15, 0, 9, 10, 4, 5, 3],
  [12, 1, 10, 15, 9, 2, 6, 8, 0, 13, 3, 4, 14, 7, 5, 11, 10, 15, 4, 2, 7, 12, 9, 5, 6, 1, 13, 14, 0, 11, 3, 8, 9, 14, 15, 5, 2, 8, 12, 3, 7, 0, 4, 10, 1, 13, 11, 6, 4, 3, 2, 12, 9, 5, 15, 10, 11, 14, 1, 7, 6, 0, 8, 13],
  [4, 11, 2, 14, 15, 0, 8, 13, 3, 12, 9, 7, 5, 10, 6, 1, 13, 0, 11, 7, 4, 9, 1, 10, 14, 3, 5, 12, 2, 15, 8, 6, 1, 4, 11, 13, 12, 3, 7, 14, 10, 15, 6, 8, 0, 5, 9, 2, 6, 11, 13, 8, 1, 4, 10, 7, 9, 5, 0, 15, 14, 2, 3, 12],
  [13, 2, 8, 4, 6, 15, 11, 1, 10, 9, 3, 14, 5, 0, 12, 7, 1, 15, 13, 8, 10, 3, 7, 4, 12, 5, 6, 11, 0, 14, 9, 2, 7, 11, 4, 1, 9, 12, 14, 2, 0, 6, 10, 13, 15, 3, 5, 8, 2, 1, 14, 7, 4, 10, 8, 13, 15, 12, 9, 0, 3, 5, 6, 11]]
/-- a text of two digits each -/
def strOf (l : List Nat) : ByteArray := ⟨(l.flatMap fun n => [UInt8.ofNat (48 + n / 10), UInt8.ofNat (48 + n % 10)]).toArray⟩
/-- a text of hexadecimal digits -/
def hexStr (l : List Nat) : ByteArray := ⟨(l.map fun n => UInt8.ofNat (if n < 10 then 48 + n else 87 + n)).toArray⟩
def strIP : ByteArray := ⟨#[53, 56, 53, 48, 52, 50, 51, 52, 50, 54, 49, 56, 49, 48, 48, 50, 54, 48, 53, 50, 52, 52, 51, 54, 50, 56, 50, 48, 49, 50, 48, 52, 54, 50, 53, 52, 52, 54, 51, 56, 51, 48, 50, 50, 49, 52, 48, 54, 54, 52, 53, 54, 52, 56, 52, 48, 51, 50, 50, 52, 49, 54, 48, 56, 53, 55, 52, 57, 52, 49, 51, 51, 50, 53, 49, 55, 48, 57, 48, 49, 53, 57, 53, 49, 52, 51, 51, 53, 50, 55, 49, 57, 49, 49, 48, 51, 54, 49, 53, 51, 52, 53, 51, 55, 50, 57, 50, 49, 49, 51, 48, 53, 54, 51, 53, 53, 52, 55, 51, 57, 51, 49, 50, 51, 49, 53, 48, 55]⟩
def strP : ByteArray := ⟨#[49, 54, 48, 55, 50, 48, 50, 49, 50, 57, 49, 50, 50, 56, 49, 55, 48, 49, 49, 53, 50, 51, 50, 54, 48, 53, 49, 56, 51, 49, 49, 48, 48, 50, 48, 56, 50, 52, 49, 52, 51, 50, 50, 55, 48, 51, 48, 57, 49, 57, 49, 51, 51, 48, 48, 54, 50, 50, 49, 49, 48, 52, 50, 53]⟩
def strPC1 : ByteArray := ⟨#[53, 55, 52, 57, 52, 49, 51, 51, 50, 53, 49, 55, 48, 57, 48, 49, 53, 56, 53, 48, 52, 50, 51, 52, 50, 54, 49, 56, 49, 48, 48, 50, 53, 57, 53, 49, 52, 51, 51, 53, 50, 55, 49, 57, 49, 49, 48, 51, 54, 48, 53, 50, 52, 52, 51, 54, 54, 51, 53, 53, 52, 55, 51, 57, 51, 49, 50, 51, 49, 53, 48, 55, 54, 50, 53, 52, 52, 54, 51, 56, 51, 48, 50, 50, 49, 52, 48, 54, 54, 49, 53, 51, 52, 53, 51, 55, 50, 57, 50, 49, 49, 51, 48, 53, 50, 56, 50, 48, 49, 50, 48, 52]⟩
def strPC2 : ByteArray := ⟨#[49, 52, 49, 55, 49, 49, 50, 52, 48, 49, 48, 53, 48, 51, 50, 56, 49, 53, 48, 54, 50, 49, 49, 48, 50, 51, 49, 57, 49, 50, 48, 52, 50, 54, 48, 56, 49, 54, 48, 55, 50, 55, 50, 48, 49, 51, 48, 50, 52, 49, 53, 50, 51, 49, 51, 55, 52, 55, 53, 53, 51, 48, 52, 48, 53, 49, 52, 53, 51, 51, 52, 56, 52, 52, 52, 57, 51, 57, 53, 54, 51, 52, 53, 51, 52, 54, 52, 50, 53, 48, 51, 54, 50, 57, 51, 50]⟩
def tellsB (s : ByteArray) (tab : List Nat) : Bool :=
  s.size == 2 * tab.length && (List.range tab.length).all fun k => (s.data.getD (2 * k) 0).toNat == 48 + tab.getD k 0 / 10 && (s.data.getD (2 * k + 1) 0).toNat == 48 + tab.getD k 0 % 10 && decide (tab.getD k 0 < 100)
theorem tells_of {s : ByteArray} {tab : List Nat} (h : tellsB s tab = true) : Tells s tab := by
  simp only [tellsB, Bool.and_eq_true, beq_iff_eq, List.all_eq_true, List.mem_range, decide_eq_true_eq] at h
  refine ⟨h.1, fun k hk j hj => ?_⟩
  obtain ⟨⟨h1, h2⟩, h3⟩ := h.2 k hk
  subst hj
  have hs : s.size = 2 * tab.length := h.1
  refine ⟨fun hh => ?_, fun hh => ?_, h3⟩
  · rw [← h1]
    show (s.data[2 * k]).toNat = _
    have h0 : 2 * k < s.data.size := hh
    unfold Array.getD; rw [dif_pos h0]; rfl
  · rw [← h2]
    show (s.data[2 * k + 1]).toNat = _
    have h0 : 2 * k + 1 < s.data.size := hh
    unfold Array.getD; rw [dif_pos h0]; rfl
theorem tells_IP : Tells strIP tabIP := tells_of (by decide +kernel)
theorem tells_P : Tells strP tabP := tells_of (by decide +kernel)
theorem tells_PC1 : Tells strPC1 tabPC1 := tells_of (by decide +kernel)
theorem tells_PC2 : Tells strPC2 tabPC2 := tells_of (by decide +kernel)
/-- the texts of the boxes -/
def boxS (i : Nat) : ByteArray := [⟨#[101, 52, 100, 49, 50, 102, 98, 56, 51, 97, 54, 99, 53, 57, 48, 55, 48, 102, 55, 52, 101, 50, 100, 49, 97, 54, 99, 98, 57, 53, 51, 56, 52, 49, 101, 56, 100, 54, 50, 98, 102, 99, 57, 55, 51, 97, 53, 48, 102, 99, 56, 50, 52, 57, 49, 55, 53, 98, 51, 101, 97, 48, 54, 100]⟩,
  ⟨#[102, 49, 56, 101, 54, 98, 51, 52, 57, 55, 50, 100, 99, 48, 53, 97, 51, 100, 52, 55, 102, 50, 56, 101, 99, 48, 49, 97, 54, 57, 98, 53, 48, 101, 55, 98, 97, 52, 100, 49, 53, 56, 99, 54, 57, 51, 50, 102, 100, 56, 97, 49, 51, 102, 52, 50, 98, 54, 55, 99, 48, 53, 101, 57]⟩,
  ⟨#[97, 48, 57, 101, 54, 51, 102, 53, 49, 100, 99, 55, 98, 52, 50, 56, 100, 55, 48, 57, 51, 52, 54, 97, 50, 56, 53, 101, 99, 98, 102, 49, 100, 54, 52, 57, 56, 102, 51, 48, 98, 49, 50, 99, 53, 97, 101, 55, 49, 97, 100, 48, 54, 57, 56, 55, 52, 102, 101, 51, 98, 53, 50, 99]⟩,
  ⟨#[55, 100, 101, 51, 48, 54, 57, 97, 49, 50, 56, 53, 98, 99, 52, 102, 100, 56, 98, 53, 54, 102, 48, 51, 52, 55, 50, 99, 49, 97, 101, 57, 97, 54, 57, 48, 99, 98, 55, 100, 102, 49, 51, 101, 53, 50, 56, 52, 51, 102, 48, 54, 97, 49, 100, 56, 57, 52, 53, 98, 99, 55, 50, 101]⟩,
  ⟨#[50, 99, 52, 49, 55, 97, 98, 54, 56, 53, 51, 102, 100, 48, 101, 57, 101, 98, 50, 99, 52, 55, 100, 49, 53, 48, 102, 97, 51, 57, 56, 54, 52, 50, 49, 98, 97, 100, 55, 56, 102, 57, 99, 53, 54, 51, 48, 101, 98, 56, 99, 55, 49, 101, 50, 100, 54, 102, 48, 57, 97, 52, 53, 51]⟩,
  ⟨#[99, 49, 97, 102, 57, 50, 54, 56, 48, 100, 51, 52, 101, 55, 53, 98, 97, 102, 52, 50, 55, 99, 57, 53, 54, 49, 100, 101, 48, 98, 51, 56, 57, 101, 102, 53, 50, 56, 99, 51, 55, 48, 52, 97, 49, 100, 98, 54, 52, 51, 50, 99, 57, 53, 102, 97, 98, 101, 49, 55, 54, 48, 56, 100]⟩,
  ⟨#[52, 98, 50, 101, 102, 48, 56, 100, 51, 99, 57, 55, 53, 97, 54, 49, 100, 48, 98, 55, 52, 57, 49, 97, 101, 51, 53, 99, 50, 102, 56, 54, 49, 52, 98, 100, 99, 51, 55, 101, 97, 102, 54, 56, 48, 53, 57, 50, 54, 98, 100, 56, 49, 52, 97, 55, 57, 53, 48, 102, 101, 50, 51, 99]⟩,
  ⟨#[100, 50, 56, 52, 54, 102, 98, 49, 97, 57, 51, 101, 53, 48, 99, 55, 49, 102, 100, 56, 97, 51, 55, 52, 99, 53, 54, 98, 48, 101, 57, 50, 55, 98, 52, 49, 57, 99, 101, 50, 48, 54, 97, 100, 102, 51, 53, 56, 50, 49, 101, 55, 52, 97, 56, 100, 102, 99, 57, 48, 51, 53, 54, 98]⟩].getD i ByteArray.empty
def boxArr : Array Value := #[.string ⟨#[101, 52, 100, 49, 50, 102, 98, 56, 51, 97, 54, 99, 53, 57, 48, 55, 48, 102, 55, 52, 101, 50, 100, 49, 97, 54, 99, 98, 57, 53, 51, 56, 52, 49, 101, 56, 100, 54, 50, 98, 102, 99, 57, 55, 51, 97, 53, 48, 102, 99, 56, 50, 52, 57, 49, 55, 53, 98, 51, 101, 97, 48, 54, 100]⟩,
  .string ⟨#[102, 49, 56, 101, 54, 98, 51, 52, 57, 55, 50, 100, 99, 48, 53, 97, 51, 100, 52, 55, 102, 50, 56, 101, 99, 48, 49, 97, 54, 57, 98, 53, 48, 101, 55, 98, 97, 52, 100, 49, 53, 56, 99, 54, 57, 51, 50, 102, 100, 56, 97, 49, 51, 102, 52, 50, 98, 54, 55, 99, 48, 53, 101, 57]⟩,
  .string ⟨#[97, 48, 57, 101, 54, 51, 102, 53, 49, 100, 99, 55, 98, 52, 50, 56, 100, 55, 48, 57, 51, 52, 54, 97, 50, 56, 53, 101, 99, 98, 102, 49, 100, 54, 52, 57, 56, 102, 51, 48, 98, 49, 50, 99, 53, 97, 101, 55, 49, 97, 100, 48, 54, 57, 56, 55, 52, 102, 101, 51, 98, 53, 50, 99]⟩,
  .string ⟨#[55, 100, 101, 51, 48, 54, 57, 97, 49, 50, 56, 53, 98, 99, 52, 102, 100, 56, 98, 53, 54, 102, 48, 51, 52, 55, 50, 99, 49, 97, 101, 57, 97, 54, 57, 48, 99, 98, 55, 100, 102, 49, 51, 101, 53, 50, 56, 52, 51, 102, 48, 54, 97, 49, 100, 56, 57, 52, 53, 98, 99, 55, 50, 101]⟩,
  .string ⟨#[50, 99, 52, 49, 55, 97, 98, 54, 56, 53, 51, 102, 100, 48, 101, 57, 101, 98, 50, 99, 52, 55, 100, 49, 53, 48, 102, 97, 51, 57, 56, 54, 52, 50, 49, 98, 97, 100, 55, 56, 102, 57, 99, 53, 54, 51, 48, 101, 98, 56, 99, 55, 49, 101, 50, 100, 54, 102, 48, 57, 97, 52, 53, 51]⟩,
  .string ⟨#[99, 49, 97, 102, 57, 50, 54, 56, 48, 100, 51, 52, 101, 55, 53, 98, 97, 102, 52, 50, 55, 99, 57, 53, 54, 49, 100, 101, 48, 98, 51, 56, 57, 101, 102, 53, 50, 56, 99, 51, 55, 48, 52, 97, 49, 100, 98, 54, 52, 51, 50, 99, 57, 53, 102, 97, 98, 101, 49, 55, 54, 48, 56, 100]⟩,
  .string ⟨#[52, 98, 50, 101, 102, 48, 56, 100, 51, 99, 57, 55, 53, 97, 54, 49, 100, 48, 98, 55, 52, 57, 49, 97, 101, 51, 53, 99, 50, 102, 56, 54, 49, 52, 98, 100, 99, 51, 55, 101, 97, 102, 54, 56, 48, 53, 57, 50, 54, 98, 100, 56, 49, 52, 97, 55, 57, 53, 48, 102, 101, 50, 51, 99]⟩,
  .string ⟨#[100, 50, 56, 52, 54, 102, 98, 49, 97, 57, 51, 101, 53, 48, 99, 55, 49, 102, 100, 56, 97, 51, 55, 52, 99, 53, 54, 98, 48, 101, 57, 50, 55, 98, 52, 49, 57, 99, 101, 50, 48, 54, 97, 100, 102, 51, 53, 56, 50, 49, 101, 55, 52, 97, 56, 100, 102, 99, 57, 48, 51, 53, 54, 98]⟩]
/-- the text tells these hexadecimal digits -/
def TellsHex (s : ByteArray) (l : List Nat) : Prop := s.size = 64 ∧ ∀ j, j < 64 → ∀ h, (s[j]'h).toNat = (if l.getD j 0 < 10 then 48 + l.getD j 0 else 87 + l.getD j 0) ∧ l.getD j 0 < 16
def hexB (s : ByteArray) (l : List Nat) : Bool :=
  s.size == 64 && (List.range 64).all fun j => (s.data.getD j 0).toNat == (if l.getD j 0 < 10 then 48 + l.getD j 0 else 87 + l.getD j 0) && decide (l.getD j 0 < 16)
theorem hex_of {s : ByteArray} {l : List Nat} (h : hexB s l = true) : TellsHex s l := by
  simp only [hexB, Bool.and_eq_true, beq_iff_eq, List.all_eq_true, List.mem_range, decide_eq_true_eq] at h
  refine ⟨h.1, fun j hj hh => ?_⟩
  obtain ⟨h1, h3⟩ := h.2 j hj
  refine ⟨?_, h3⟩
  rw [← h1]
  show (s.data[j]).toNat = _
  have h0 : j < s.data.size := hh
  unfold Array.getD; rw [dif_pos h0]; rfl
theorem hex_box (i : Nat) (hi : i < 8) : TellsHex (boxS i) (boxTab.getD i []) := by
  refine hex_of ?_
  have : (List.range 8).all (fun i => hexB (boxS i) (boxTab.getD i [])) = true := by decide +kernel
  rw [List.all_eq_true] at this
  exact this i (by simpa using hi)
end Lk
namespace Go.Proofs.YtbbfjlnkhenbiaaDoor
open Go.RowKit Lk
theorem le_IP : ∀ k, k < tabIP.length → tabIP.getD k 0 ≤ 64 := by decide +kernel
theorem le_P : ∀ k, k < tabP.length → tabP.getD k 0 ≤ 32 := by decide +kernel
theorem le_PC1 : ∀ k, k < tabPC1.length → tabPC1.getD k 0 ≤ 64 := by decide +kernel
theorem le_PC2 : ∀ k, k < tabPC2.length → tabPC2.getD k 0 ≤ 56 := by decide +kernel
theorem ge_IP : ∀ k, k < tabIP.length → 1 ≤ tabIP.getD k 0 ∧ tabIP.getD k 0 ≤ 64 := by decide +kernel
theorem permute_IP (x : Nat) (w : World) (hx : x < 2 ^ 64) : Calls Tryd.prog 72 #[.int .u64 (nv x), .int .i64 64, .string ⟨#[53, 56, 53, 48, 52, 50, 51, 52, 50, 54, 49, 56, 49, 48, 48, 50, 54, 48, 53, 50, 52, 52, 51, 54, 50, 56, 50, 48, 49, 50, 48, 52, 54, 50, 53, 52, 52, 54, 51, 56, 51, 48, 50, 50, 49, 52, 48, 54, 54, 52, 53, 54, 52, 56, 52, 48, 51, 50, 50, 52, 49, 54, 48, 56, 53, 55, 52, 57, 52, 49, 51, 51, 50, 53, 49, 55, 48, 57, 48, 49, 53, 57, 53, 49, 52, 51, 51, 53, 50, 55, 49, 57, 49, 49, 48, 51, 54, 49, 53, 51, 52, 53, 51, 55, 50, 57, 50, 49, 49, 51, 48, 53, 54, 51, 53, 53, 52, 55, 51, 57, 51, 49, 50, 51, 49, 53, 48, 55]⟩] w fun e w' => e = .returned (.int .u64 (nv (perm x 64 tabIP))) ∧ Drawn w w' :=
  permute_any x 64 strIP tabIP w hx tells_IP (by decide) le_IP (by decide)
theorem permute_P (x : Nat) (w : World) (hx : x < 2 ^ 64) : Calls Tryd.prog 72 #[.int .u64 (nv x), .int .i64 32, .string ⟨#[49, 54, 48, 55, 50, 48, 50, 49, 50, 57, 49, 50, 50, 56, 49, 55, 48, 49, 49, 53, 50, 51, 50, 54, 48, 53, 49, 56, 51, 49, 49, 48, 48, 50, 48, 56, 50, 52, 49, 52, 51, 50, 50, 55, 48, 51, 48, 57, 49, 57, 49, 51, 51, 48, 48, 54, 50, 50, 49, 49, 48, 52, 50, 53]⟩] w fun e w' => e = .returned (.int .u64 (nv (perm x 32 tabP))) ∧ Drawn w w' :=
  permute_any x 32 strP tabP w hx tells_P (by decide) le_P (by decide)
theorem permute_PC1 (x : Nat) (w : World) (hx : x < 2 ^ 64) : Calls Tryd.prog 72 #[.int .u64 (nv x), .int .i64 64, .string ⟨#[53, 55, 52, 57, 52, 49, 51, 51, 50, 53, 49, 55, 48, 57, 48, 49, 53, 56, 53, 48, 52, 50, 51, 52, 50, 54, 49, 56, 49, 48, 48, 50, 53, 57, 53, 49, 52, 51, 51, 53, 50, 55, 49, 57, 49, 49, 48, 51, 54, 48, 53, 50, 52, 52, 51, 54, 54, 51, 53, 53, 52, 55, 51, 57, 51, 49, 50, 51, 49, 53, 48, 55, 54, 50, 53, 52, 52, 54, 51, 56, 51, 48, 50, 50, 49, 52, 48, 54, 54, 49, 53, 51, 52, 53, 51, 55, 50, 57, 50, 49, 49, 51, 48, 53, 50, 56, 50, 48, 49, 50, 48, 52]⟩] w fun e w' => e = .returned (.int .u64 (nv (perm x 64 tabPC1))) ∧ Drawn w w' :=
  permute_any x 64 strPC1 tabPC1 w hx tells_PC1 (by decide) le_PC1 (by decide)
theorem permute_PC2 (x : Nat) (w : World) (hx : x < 2 ^ 64) : Calls Tryd.prog 72 #[.int .u64 (nv x), .int .i64 56, .string ⟨#[49, 52, 49, 55, 49, 49, 50, 52, 48, 49, 48, 53, 48, 51, 50, 56, 49, 53, 48, 54, 50, 49, 49, 48, 50, 51, 49, 57, 49, 50, 48, 52, 50, 54, 48, 56, 49, 54, 48, 55, 50, 55, 50, 48, 49, 51, 48, 50, 52, 49, 53, 50, 51, 49, 51, 55, 52, 55, 53, 53, 51, 48, 52, 48, 53, 49, 52, 53, 51, 51, 52, 56, 52, 52, 52, 57, 51, 57, 53, 54, 51, 52, 53, 51, 52, 54, 52, 50, 53, 48, 51, 54, 50, 57, 51, 50]⟩] w fun e w' => e = .returned (.int .u64 (nv (perm x 56 tabPC2))) ∧ Drawn w w' :=
  permute_any x 56 strPC2 tabPC2 w hx tells_PC2 (by decide) le_PC2 (by decide)
theorem unpermute_IP (x : Nat) (w : World) (hx : x < 2 ^ 64) : Calls Tryd.prog 76 #[.int .u64 (nv x), .string ⟨#[53, 56, 53, 48, 52, 50, 51, 52, 50, 54, 49, 56, 49, 48, 48, 50, 54, 48, 53, 50, 52, 52, 51, 54, 50, 56, 50, 48, 49, 50, 48, 52, 54, 50, 53, 52, 52, 54, 51, 56, 51, 48, 50, 50, 49, 52, 48, 54, 54, 52, 53, 54, 52, 56, 52, 48, 51, 50, 50, 52, 49, 54, 48, 56, 53, 55, 52, 57, 52, 49, 51, 51, 50, 53, 49, 55, 48, 57, 48, 49, 53, 57, 53, 49, 52, 51, 51, 53, 50, 55, 49, 57, 49, 49, 48, 51, 54, 49, 53, 51, 52, 53, 51, 55, 50, 57, 50, 49, 49, 51, 48, 53, 54, 51, 53, 53, 52, 55, 51, 57, 51, 49, 50, 51, 49, 53, 48, 55]⟩] w fun e w' => e = .returned (.int .u64 (nv (unperm x tabIP))) ∧ Drawn w w' :=
  unpermute_any x strIP tabIP w hx tells_IP (by decide) ge_IP
end Go.Proofs.YtbbfjlnkhenbiaaDoor
set_option linter.unusedVariables false
set_option linter.unusedSimpArgs false
namespace Lk
open Go
/-- where a box's digit lies -/
def sixIx (s : Nat) : Nat := (((s / 16) &&& 2) ||| (s &&& 1)) * 16 + (s / 2 &&& 15)
def dbox (i s : Nat) : Nat := (boxTab.getD i []).getD (sixIx s) 0
theorem run_index_box {P : Program} (ty n e : TypeId) (hu : P.underlying ty = some (.array n e)) (hn : n = 8) (hsz : ∀ w : World, (Go.sizeOf e : Sem Nat).run P w = .ok 1 w) (ha : ∀ w : World, (isAgg e).run P w = .ok false w) (k : Nat) (hk : k < 8) (w : World) :
    (Instr.index ty (.agg boxArr) (.int .i64 k)).run P w = .ok (.string (boxS k)) w := by
  subst hn
  have hg : boxArr[k]? = some (.string (boxS k)) := by
    match k, hk with
    | 0, _ => rfl | 1, _ => rfl | 2, _ => rfl | 3, _ => rfl | 4, _ => rfl | 5, _ => rfl | 6, _ => rfl | 7, _ => rfl
  simp only [Instr.index, asIntOf]
  simp [run_underlying hu, hsz, part, ha, hg, hk]
theorem six_ix (s : Nat) (hs : s < 64) :
    IntKind.u64.wrap (IntKind.u64.wrap (bits BinOp.or IntKind.u64 (bits BinOp.and IntKind.u64 (nv s / (16 : Int)) 2) (bits BinOp.and IntKind.u64 (nv s) 1) * (16 : Int)) + bits BinOp.and IntKind.u64 (nv s / (2 : Int)) 15) = (sixIx s : Int) := by
  have h : ∀ x : Fin 64, IntKind.u64.wrap (IntKind.u64.wrap (bits BinOp.or IntKind.u64 (bits BinOp.and IntKind.u64 (nv x.val / (16 : Int)) 2) (bits BinOp.and IntKind.u64 (nv x.val) 1) * (16 : Int)) + bits BinOp.and IntKind.u64 (nv x.val / (2 : Int)) 15) = (sixIx x.val : Int) := by decide +kernel
  exact h ⟨s, hs⟩
theorem sixIx_lt (s : Nat) (hs : s < 64) : sixIx s < 64 := by
  have h : ∀ x : Fin 64, sixIx x.val < 64 := by decide +kernel
  exact h ⟨s, hs⟩
end Lk
namespace Go.Proofs.YtbbfjlnkhenbiaaDoor
open Go.RowKit Lk
theorem str_size : ∀ w : World, (Go.sizeOf 9 : Sem Nat).run Tryd.prog w = .ok 1 w := fun _ => by kernel_rfl
theorem str_agg : ∀ w : World, (isAgg 9).run Tryd.prog w = .ok false w := fun _ => by kernel_rfl
set_option maxHeartbeats 800000 in
set_option maxRecDepth 100000 in
theorem dbox_any (i s : Nat) (w : World) (hi : i < 8) (hs : s < 64) : Calls Tryd.prog 101 #[.int .i64 i, .int .u64 (nv s)] w fun e w' => e = .returned (.int .u64 (nv (dbox i s))) ∧ w' = w := by
  have HIX := Lib.hid (run_index_box (P := Tryd.prog) 188 8 9 (by kernel_rfl) rfl str_size str_agg i hi)
  have hix := HIX.out
  have hj := sixIx_lt s hs
  have hb := hex_box i hi
  have hz : (boxS i).size = 64 := hb.1
  have hb := hb.2 (sixIx s) hj
  have he := six_ix s hs
  have hd : (boxTab.getD i []).getD (sixIx s) 0 = dbox i s := rfl
  rw [hd] at hb
  obtain ⟨j, ej⟩ : ∃ j, sixIx s = j := ⟨_, rfl⟩
  obtain ⟨d, ed⟩ : ∃ d, dbox i s = d := ⟨_, rfl⟩
  rw [ej] at hb he hj
  rw [ed] at hb ⊢
  obtain ⟨sb, esb⟩ : ∃ sb, boxS i = sb := ⟨_, rfl⟩
  rw [esb] at hb hz hix
  have hd16 : d < 16 := (hb (by omega)).2
  obtain ⟨c, ec⟩ : ∃ c, (if d < 10 then 48 + d else 87 + d) = c := ⟨_, rfl⟩
  have hc : ∀ h : j < sb.size, (sb[j]'h).toNat = c := fun h => by rw [(hb h).1, ec]
  clear hb hd ej ed esb
  have hjz : (j : Int) < (sb.size : Int) := by omega
  have EC := Lib.hid ec
  by_cases h10 : d < 10
  · have hcd : c = 48 + d := by rw [← ec, if_pos h10]
    have hc9 : (c : Int) < (97 : Int) := by omega
    have HCD := Lib.hid hcd
    clear ec hcd h10
    go_enter Tryd.func101, Tryd.ntmps101
    go_wp2_with (refine wpList_buildTo rfl 188 _ rfl (some 7) rfl boxArr (by kernel_rfl) ?_)
    go_ret
    refine ⟨congrArg (fun x => Ending.returned (.int .u64 x)) ?_, rfl⟩
    have := HCD.out
    unfold nv
    omega
  · have hcd : c = 87 + d := by rw [← ec, if_neg h10]
    have hc9 : ¬ (c : Int) < (97 : Int) := by omega
    have HCD := Lib.hid hcd
    have H10 := Lib.hid h10
    clear ec hcd h10
    go_enter Tryd.func101, Tryd.ntmps101
    go_wp2_with (refine wpList_buildTo rfl 188 _ rfl (some 7) rfl boxArr (by kernel_rfl) ?_)
    go_ret
    refine ⟨congrArg (fun x => Ending.returned (.int .u64 x)) ?_, rfl⟩
    have := HCD.out
    have := H10.out
    simp only [IntKind.u64, IntKind.wrap, nv]
    omega
end Go.Proofs.YtbbfjlnkhenbiaaDoor
set_option linter.unusedVariables false
set_option linter.unusedSimpArgs false
namespace Lk
open Go
def wide (h : Nat) : Nat := ((h &&& 1) * 2 ^ 33 ||| h * 2) ||| h / 2 ^ 31
def sixOf (h k i : Nat) : Nat := (wide h / 2 ^ (28 - 4 * i) &&& 63) ^^^ (k / 2 ^ (42 - 6 * i) &&& 63)
def mixTo (h k : Nat) : Nat → Nat
  | 0 => 0
  | i + 1 => mixTo h k i * 16 ||| dbox i (sixOf h k i)
def dmix (h k : Nat) : Nat := perm (mixTo h k 8) 32 tabP
theorem sixOf_lt (h k i : Nat) : sixOf h k i < 64 := Nat.xor_lt_two_pow (n := 6) (Nat.and_lt_two_pow _ (by decide)) (Nat.and_lt_two_pow _ (by decide))
theorem getD_of_mem {α} (l : List α) (i : Nat) (d : α) : l.getD i d ∈ l ∨ l.getD i d = d := by
  rw [List.getD_eq_getElem?_getD]
  cases h : l[i]? with
  | none => exact .inr rfl
  | some a => exact .inl (List.mem_of_getElem? h)
theorem dbox_lt (i s : Nat) : dbox i s < 16 := by
  have h : ∀ l ∈ boxTab, ∀ x ∈ l, x < 16 := by decide +kernel
  unfold dbox
  rcases getD_of_mem boxTab i [] with h1 | h1
  · rcases getD_of_mem (boxTab.getD i []) (sixIx s) 0 with h2 | h2
    · exact h _ h1 _ h2
    · rw [h2]; decide
  · rw [h1]; simp
theorem mixTo_lt (h k i : Nat) : mixTo h k i < 16 ^ i := by
  induction i with
  | zero => simp [mixTo]
  | succ i ih =>
    have := dbox_lt i (sixOf h k i)
    have e : mixTo h k i * 16 ||| dbox i (sixOf h k i) = mixTo h k i * 16 + dbox i (sixOf h k i) := by
      have := Nat.two_pow_add_eq_or_of_lt (i := 4) (by simpa using this) (mixTo h k i)
      rw [Nat.mul_comm _ 16]
      simpa using this.symm
    show mixTo h k i * 16 ||| dbox i (sixOf h k i) < _
    rw [e, Nat.pow_succ]
    omega
theorem wide_form (h : Nat) (hh : h < 2 ^ 32) : bits BinOp.or IntKind.u64 (bits BinOp.or IntKind.u64 (IntKind.u64.wrap (bits BinOp.and IntKind.u64 (nv h) 1 * (8589934592 : Int))) (IntKind.u64.wrap (nv h * (2 : Int)))) (nv h / (2147483648 : Int)) = nv (wide h) := by
  unfold nv wide
  have e1 : (1 : Int) = ((1 : Nat) : Int) := rfl
  have h1 : h &&& 1 < 2 := by rw [Nat.and_one_is_mod]; omega
  have e2 : ((h &&& 1 : Nat) : Int) * (8589934592 : Int) = (((h &&& 1) * 2 ^ 33 : Nat) : Int) := by simp
  have e3 : (h : Int) * (2 : Int) = ((h * 2 : Nat) : Int) := by simp
  have e4 : (h : Int) / (2147483648 : Int) = ((h / 2 ^ 31 : Nat) : Int) := by simp
  rw [e1, bits_and_u64 _ _ (by omega) (by decide), e2, e3, e4, wrap_u64 _ (by omega), wrap_u64 _ (by omega), bits_or_u64 _ _ (by omega) (by omega), bits_or_u64 _ _ (Nat.or_lt_two_pow (by omega) (by omega)) (by omega)]
theorem six_form (W k n : Nat) (hW : W < 2 ^ 64) (hk : k < 2 ^ 64) : bits BinOp.xor IntKind.u64 (bits BinOp.and IntKind.u64 (nv W / (2 : Int) ^ (28 - 4 * n)) 63) (bits BinOp.and IntKind.u64 (nv k / (2 : Int) ^ (42 - 6 * n)) 63) = nv ((W / 2 ^ (28 - 4 * n) &&& 63) ^^^ (k / 2 ^ (42 - 6 * n) &&& 63)) := by
  unfold nv
  have e1 : ((W : Int) / (2 : Int) ^ (28 - 4 * n)) = ((W / 2 ^ (28 - 4 * n) : Nat) : Int) := by simp
  have e2 : ((k : Int) / (2 : Int) ^ (42 - 6 * n)) = ((k / 2 ^ (42 - 6 * n) : Nat) : Int) := by simp
  have e3 : (63 : Int) = ((63 : Nat) : Int) := rfl
  have h1 : W / 2 ^ (28 - 4 * n) < 2 ^ 64 := Nat.lt_of_le_of_lt (Nat.div_le_self _ _) hW
  have h2 : k / 2 ^ (42 - 6 * n) < 2 ^ 64 := Nat.lt_of_le_of_lt (Nat.div_le_self _ _) hk
  have h3 : ∀ x : Nat, x &&& 63 < 2 ^ 64 := fun x => Nat.and_lt_two_pow _ (by decide)
  rw [e1, e2, e3, bits_and_u64 _ _ h1 (by decide), bits_and_u64 _ _ h2 (by decide), bits_xor_u64 _ _ (h3 _) (h3 _)]
theorem mix_step (o d : Nat) (ho : o < 2 ^ 60) (hd : d < 16) : bits BinOp.or IntKind.u64 (IntKind.u64.wrap (nv o * (16 : Int))) (nv d) = nv (o * 16 ||| d) := by
  unfold nv
  have e1 : (o : Int) * (16 : Int) = ((o * 16 : Nat) : Int) := by simp
  rw [e1, wrap_u64 _ (by omega), bits_or_u64 _ _ (by omega) (by omega)]
theorem wide_lt (h : Nat) (hh : h < 2 ^ 32) : wide h < 2 ^ 64 := by
  have h1 : h &&& 1 < 2 := by rw [Nat.and_one_is_mod]; omega
  exact Nat.or_lt_two_pow (Nat.or_lt_two_pow (by omega) (by omega)) (by omega)
end Lk
namespace Go.Proofs.YtbbfjlnkhenbiaaDoor
open Go.RowKit Lk
set_option maxHeartbeats 800000 in
set_option maxRecDepth 100000 in
theorem mix_any (h k : Nat) (w : World) (hh : h < 2 ^ 32) (hk : k < 2 ^ 48) : Calls Tryd.prog 74 #[.int .u64 (nv h), .int .u64 (nv k)] w fun e w' => e = .returned (.int .u64 (nv (dmix h k))) ∧ Drawn w w' := by
  have hw := wide_form h hh
  have hwl := wide_lt h hh
  obtain ⟨W, eW⟩ : ∃ W, wide h = W := ⟨_, rfl⟩
  rw [eW] at hw hwl
  have EW := Lib.hid eW
  clear eW
  go_enter Tryd.func74, Tryd.ntmps74
  go_wp2
  clear hw
  go_loopw [5, 18] (fun o i wr => ∃ n : Nat, n ≤ 8 ∧ i = .int .i64 n ∧ o = .int .u64 (nv (mixTo h k n)) ∧ Drawn w wr) (fun _ i _ => 8 - (intOf i).toNat)
  case atStart => exact ⟨0, by omega, rfl, rfl, Drawn.refl _⟩
  case round =>
    obtain ⟨n, hn, rfl, rfl, hD⟩ := hrel
    have HD := Lib.hid hD
    clear hD
    by_cases hlt : n < 8
    · obtain ⟨o, ho⟩ : ∃ o, mixTo h k n = o := ⟨_, rfl⟩
      have HO := Lib.hid ho
      rw [ho]
      clear ho
      have hsx := six_form W k n hwl (Nat.lt_trans hk (by decide))
      obtain ⟨sx, esx⟩ : ∃ sx, ((W / 2 ^ (28 - 4 * n) &&& 63) ^^^ (k / 2 ^ (42 - 6 * n) &&& 63)) = sx := ⟨_, rfl⟩
      rw [esx] at hsx
      have hsl : sx < 64 := by rw [← esx]; exact Nat.xor_lt_two_pow (n := 6) (Nat.and_lt_two_pow _ (by decide)) (Nat.and_lt_two_pow _ (by decide))
      have ESX := Lib.hid esx
      have HL := Lib.hid hlt
      have HSL := Lib.hid hsl
      clear esx hsl
      go_wp2
      go_region
      go_wp2_with (go_at_call 101; refine (dbox_any n sx _ HL.out HSL.out).mono ?_; rintro e w' ⟨rfl, rfl⟩)
      go_roundw
      case rel =>
        refine ⟨n + 1, by have := HL.out; omega, by go_num, ?_, HD.out.drew⟩
        have hob := mixTo_lt h k n
        rw [HO.out] at hob
        have h16 : o < 2 ^ 60 := Nat.lt_of_lt_of_le hob (by have : 16 ^ n ≤ 16 ^ 8 := Nat.pow_le_pow_right (by decide) hn; omega)
        show _ = Value.int .u64 (nv (mixTo h k n * 16 ||| dbox n (sixOf h k n)))
        have e : sixOf h k n = sx := by unfold sixOf; rw [EW.out, ESX.out]
        rw [HO.out, e]
        exact congrArg (Value.int .u64) (mix_step o _ h16 (dbox_lt _ _))
      case measure => have : n < 8 := HL.out; simp [intOf]; omega
    · have HE := Lib.hid (show n = 8 by omega)
      have hm := mixTo_lt h k n
      obtain ⟨o, ho⟩ : ∃ o, mixTo h k n = o := ⟨_, rfl⟩
      rw [ho] at hm ⊢
      have hol : o < 2 ^ 64 := by rw [HE.out] at hm; exact Nat.lt_trans hm (by decide)
      have HO := Lib.hid ho
      clear ho hm
      go_wp2_with (go_at_call 72; refine (permute_P o _ hol).mono ?_; rintro e w' ⟨rfl, hD2⟩)
      go_ret
      refine ⟨?_, by obtain ⟨m, rfl⟩ := hD2; exact HD.out.step m⟩
      unfold dmix
      have := HO.out
      rw [HE.out] at this
      rw [this]
      rfl
end Go.Proofs.YtbbfjlnkhenbiaaDoor
set_option linter.unusedVariables false
set_option linter.unusedSimpArgs false
namespace Lk
open Go Go.RowKit
/-- the k-th number -/
def gN (l : List Nat) (k : Nat) : Nat := l.getD k 0
/-- numbers as cells -/
def Ns (l : List Nat) : Array Value := (l.map fun x => Value.int .u64 (nv x)).toArray
theorem Ns_size (l : List Nat) : (Ns l).size = l.length := by simp [Ns]
theorem Ns_get (l : List Nat) (k : Nat) (h : k < l.length) : (Ns l)[k]? = some (.int .u64 (nv (gN l k))) := by
  simp [Ns, h, gN]
theorem Ns_set (l : List Nat) (k : Nat) (x : Nat) : (Ns l).setIfInBounds k (.int .u64 (nv x)) = Ns (l.set k x) := by
  simp [Ns, List.map_set]
theorem Ns_one (l : List Nat) : (Ns l).all (·.oneCell') = true := by
  rw [Array.all_eq_true]
  intro i hi
  simp [Ns, Value.oneCell']
/-- the block g holds these numbers, and may be written -/
def NBlk (w : World) (g : Nat) (T : TypeId) (l : List Nat) : Prop := w.heap[g]? = some (.cells (Ns l) T (0, 0))
theorem NBlk.lt {w : World} {g T : Nat} {l : List Nat} (h : NBlk w g T l) : g < w.heap.size := (Array.getElem?_eq_some_iff.1 h).1
theorem NBlk.cell {w : World} {g T : Nat} {l : List Nat} (h : NBlk w g T l) (k : Nat) (hk : k < l.length) : w.cell? ⟨g, k, none⟩ = some (.int .u64 (nv (gN l k))) := by
  rw [cell_of_row w g k _ T _ h]; exact Ns_get l k hk
theorem NBlk.free {w : World} {g T : Nat} {l : List Nat} (h : NBlk w g T l) (k : Nat) : w.frozen? ⟨g, k, none⟩ = false := frozen_of_row w g k _ T h
theorem NBlk.set {w : World} {g T : Nat} {l : List Nat} (h : NBlk w g T l) (k : Nat) (x : Nat) : NBlk (w.setCell ⟨g, k, none⟩ (.int .u64 (nv x))) g T (l.set k x) := by
  unfold NBlk
  rw [heap_setCell_same w g k _ T _ h, Ns_set]
theorem NBlk.old {w w1 : World} {g T : Nat} {l : List Nat} (h : NBlk w g T l) {row : Option Nat} (hG : w.grownBy w1 row) (hne : row ≠ some g) : NBlk w1 g T l := by
  unfold NBlk
  rw [hG.block g h.lt (fun e => hne e.symm)]; exact h
theorem NBlk.below {w w1 : World} {g T B : Nat} {l : List Nat} (h : NBlk w g T l) (hG : Below B w w1) (hne : g < B) : NBlk w1 g T l := by
  unfold NBlk
  rw [hG.block g hne]; exact h
theorem NBlk.drewN {w : World} {g T : Nat} {l : List Nat} (h : NBlk w g T l) (n : Nat) : NBlk (w.drewN n) g T l := h
theorem NBlk.row {w : World} {g T n : Nat} {l : List Nat} (h : NBlk w g T l) (hl : l.length = n) : Row w g T n := ⟨_, h, by rw [Ns_size, hl]⟩
section
variable {P : Program} {ops : Array Oper} {rest : List Oper} {o : Oper} {a : Act} {w : World} {Q : Exit → Act → World → Prop}
theorem load_nblk (hgd : o.guard = none) (ty : TypeId) (x : Operand) (ho : o.op = .load ty x) (g T n e : Nat) (l : List Nat) (hx : a.eval x = .pointer (some ⟨g, 0, none⟩)) (hB : NBlk w g T l) (hl : l.length = n)
    (hu : P.underlying ty = some (.array n e)) (hi : (P.info? ty).map (·.size) = some n)
    (h : wpList P ops Q rest (a.put o.dst (.agg (Ns l))) w) : wpList P ops Q (o :: rest) a w :=
  wpList_load_row hgd ty x ho g hx T (Ns l) (0, 0) _ hB hu rfl (by rw [Ns_size, hl, hi]) h
theorem store_nblk (hgd : o.guard = none) (ty : TypeId) (x y : Operand) (ho : o.op = .store ty x y) (g T n : Nat) (l : List Nat) (hx : a.eval x = .pointer (some ⟨g, 0, none⟩)) (hy : a.eval y = .agg (Ns l)) (hR : Row w g T n) (hl : l.length = n)
    (hi : (P.info? ty).map (·.size) = some n)
    (h : ∀ w1, NBlk w1 g T l → w.grownBy w1 (some g) → w1.heap.size = w.heap.size → wpList P ops Q rest (a.put o.dst undef) w1) : wpList P ops Q (o :: rest) a w := by
  obtain ⟨old, hg, hs⟩ := hR
  refine wpList_store_row hgd ty x y ho g (Ns l) hx hy T old hg (by rw [Ns_size, hl, hi]) (by rw [hs, Ns_size, hl]) (Ns_one l) ?_
  refine h _ ?_ ?_ (size_setRow w g _)
  · exact setRow_heap w g old _ T _ hg
  · exact ⟨rfl, rfl, rfl, Nat.le_of_eq (size_setRow w g _).symm, fun i hi hr => setRow_other w g i _ (by rintro rfl; exact hr rfl)⟩
theorem results_nblk1 {fn : Func} {p : Tmp} {ty : TypeId} (h : fn.results = #[.cell p ty]) (tmps : Array Value) (w : World) (g T n e : Nat) (l : List Nat)
    (hp : tmps.getD p undef = .pointer (some ⟨g, 0, none⟩)) (hg : NBlk w g T l) (hl : l.length = n)
    (hu : P.underlying ty = some (.array n e)) (hi : (P.info? ty).map (·.size) = some n) :
    (results fn tmps).run P w = .ok (.agg (Ns l)) w :=
  results_cell_row h tmps w g T (Ns l) (0, 0) (.array n e) hp hg hu rfl (by rw [Ns_size, hl, hi])
end
/-- by how much a round turns -/
def shOf (r : Nat) : Nat := if r = 0 ∨ r = 1 ∨ r = 8 ∨ r = 15 then 1 else 2
/-- both halves ahead of round r -/
def cdTo (x : Nat) : Nat → Nat × Nat
  | 0 => (x / 2 ^ 28, x &&& 268435455)
  | r + 1 => (rot28 (cdTo x r).1 (shOf r), rot28 (cdTo x r).2 (shOf r))
def dkeyOf (x r : Nat) : Nat := perm ((cdTo x (r + 1)).1 * 2 ^ 28 ||| (cdTo x (r + 1)).2) 56 tabPC2
def keysTo (x k : Nat) : List Nat := (List.range 16).map fun i => if i < k then dkeyOf x i else 0
def dkeys (b : List UInt8) : List Nat := keysTo (perm (num b) 64 tabPC1) 16
theorem keysTo_len (x k : Nat) : (keysTo x k).length = 16 := by simp [keysTo]
theorem dkeys_len (b : List UInt8) : (dkeys b).length = 16 := keysTo_len _ _
theorem keysTo_set (x k : Nat) (hk : k < 16) : (keysTo x k).set k (dkeyOf x k) = keysTo x (k + 1) := by
  apply List.ext_getElem
  · simp [keysTo]
  · intro i h1 h2
    rw [List.getElem_set]
    simp only [keysTo, List.getElem_map, List.getElem_range]
    by_cases h : k = i
    · subst h; simp
    · by_cases h' : i < k
      · rw [if_neg h, if_pos h', if_pos (by omega)]
      · rw [if_neg h, if_neg h', if_neg (by omega)]
theorem cdTo_lt (x r : Nat) (hx : x < 2 ^ 56) : (cdTo x r).1 < 2 ^ 28 ∧ (cdTo x r).2 < 2 ^ 28 := by
  cases r with
  | zero => exact ⟨by show x / 2 ^ 28 < _; omega, Nat.and_lt_two_pow _ (by decide)⟩
  | succ r => exact ⟨rot28_lt _ _, rot28_lt _ _⟩
theorem half_form (x : Nat) (hx : x < 2 ^ 56) : nv x / (268435456 : Int) = nv (x / 2 ^ 28) ∧ bits BinOp.and IntKind.u64 (nv x) 268435455 = nv (x &&& 268435455) := by
  unfold nv
  have e3 : (268435455 : Int) = ((268435455 : Nat) : Int) := rfl
  exact ⟨by simp, by rw [e3, bits_and_u64 _ _ (by omega) (by decide)]⟩
theorem join28 (c d : Nat) (hc : c < 2 ^ 28) (hd : d < 2 ^ 28) : bits BinOp.or IntKind.u64 (IntKind.u64.wrap (nv c * (268435456 : Int))) (nv d) = nv (c * 2 ^ 28 ||| d) ∧ c * 2 ^ 28 ||| d < 2 ^ 64 := by
  unfold nv
  have e1 : (c : Int) * (268435456 : Int) = ((c * 2 ^ 28 : Nat) : Int) := by simp
  rw [e1, wrap_u64 _ (by omega)]
  exact ⟨bits_or_u64 _ _ (by omega) (by omega), Nat.or_lt_two_pow (by omega) (by omega)⟩
theorem len_PC1 : tabPC1.length = 56 := by decide +kernel
theorem len_PC2 : tabPC2.length = 48 := by decide +kernel
theorem perm_PC1_lt (x : Nat) : perm x 64 tabPC1 < 2 ^ 56 := by
  have h := permTo_lt x 64 tabPC1 tabPC1.length
  unfold perm
  exact Nat.lt_of_lt_of_eq h (by rw [len_PC1])
theorem dkeyOf_lt (x r : Nat) : dkeyOf x r < 2 ^ 48 := by
  have h := permTo_lt ((cdTo x (r + 1)).1 * 2 ^ 28 ||| (cdTo x (r + 1)).2) 56 tabPC2 tabPC2.length
  unfold dkeyOf perm
  exact Nat.lt_of_lt_of_eq h (by rw [len_PC2])
end Lk
namespace Go.Proofs.YtbbfjlnkhenbiaaDoor
open Go.RowKit Lk
set_option maxHeartbeats 1600000 in
set_option maxRecDepth 100000 in
theorem Rounds_any (b : List UInt8) (hb : b.length = 8) (w : World) : Calls Tryd.prog 71 #[.agg (Bs b)] w fun e w' => e = .returned (.agg (Ns (dkeys b))) ∧ Below w.heap.size w w' := by
  obtain ⟨n, hn⟩ : ∃ n, w.heap.size = n := ⟨_, rfl⟩
  have Hn := Lib.hid hn
  have HNB := Lib.hid hb
  have hP := fun w => permute_PC1 (num b) w (num_lt b)
  have hx := perm_PC1_lt (num b)
  obtain ⟨x, ex⟩ : ∃ x, perm (num b) 64 tabPC1 = x := ⟨_, rfl⟩
  rw [ex] at hx
  simp only [ex] at hP
  have HP := Lib.hid hP
  have EX := Lib.hid ex
  obtain ⟨hh1, hh2⟩ := half_form x hx
  clear hP ex
  go_enter Tryd.func71, Tryd.ntmps71
  go_wp2_with (first
    | (refine box_blk (w := w) rfl 75 _ rfl b rfl ?_; intro w0 hB0 hG0 hs0)
    | (refine alloc_row (w := w0) rfl 145 rfl (.agg (Ns (List.replicate 16 0))) 16 (fun _ => by kernel_rfl) rfl ?_; intro w1 hR1 _ hG1 hs1)
    | (refine alloc_row (w := w1) rfl 145 rfl (.agg (Ns (List.replicate 16 0))) 16 (fun _ => by kernel_rfl) rfl ?_; intro w2 _ hB2 hG2 hs2)
    | (refine load_blk (w := w2) rfl 75 _ rfl w.heap.size 75 8 5 b rfl ((hB0.old hG1 (by simp)).old hG2 (by simp)) HNB.out (by kernel_rfl) (by kernel_rfl) ?_)
    | (go_at_call 73; refine (number_any b HNB.out _).mono ?_; rintro e w3 ⟨rfl, hG3⟩)
    | (go_at_call 72; refine (HP.out _).mono ?_; rintro e w4 ⟨rfl, hD4⟩))
  have e0 : w0.heap.size = n + 1 := by omega
  have e1 : w1.heap.size = n + 2 := by omega
  have e2 : w2.heap.size = n + 3 := by omega
  have hB : NBlk w2 (n + 1 + 1) 145 (keysTo x 0) := by rw [← e1]; exact hB2
  have hR : Row w2 (n + 1) 145 16 := by rw [e0] at hR1; exact hR1.old hG2 (by simp)
  have hBl : Below n w w2 := below_none (below_none (below_none (Below.refl n w) (by omega) hG0) (by omega) hG1) (by omega) hG2
  rw [e2] at hG3
  have hB' : NBlk w4 (n + 1 + 1) 145 (keysTo x 0) := by obtain ⟨m, rfl⟩ := hD4; exact (hB.below hG3 (by omega)).drewN m
  have hR' : Row w4 (n + 1) 145 16 := by
    obtain ⟨m, rfl⟩ := hD4
    obtain ⟨old, h1, h2⟩ := hR
    exact ⟨old, by show w3.heap[n + 1]? = _; rw [hG3.block (n + 1) (by omega)]; exact h1, h2⟩
  have hBl' : Below n w w4 := by
    obtain ⟨m, rfl⟩ := hD4
    have h3 : Below n w w3 := below_more hBl hG3 (by omega)
    exact ⟨h3.os, h3.tape, h3.output, h3.size, h3.block⟩
  have hsz : n + 3 ≤ w4.heap.size := by obtain ⟨m, rfl⟩ := hD4; have := hG3.size; show n + 3 ≤ w3.heap.size; omega
  clear hB0 hG0 hs0 hR1 hG1 hs1 hB2 hG2 hs2 e0 e1 e2 hB hR hBl hG3 hD4 hn
  go_loopw [5, 6, 16] (fun c d i wr => ∃ k : Nat, k ≤ 16 ∧ i = .int .i64 k ∧ c = .int .u64 (nv (cdTo x k).1) ∧ d = .int .u64 (nv (cdTo x k).2) ∧ NBlk wr (n + 1 + 1) 145 (keysTo x k) ∧ Row wr (n + 1) 145 16 ∧ Below n w wr ∧ n + 3 ≤ wr.heap.size) (fun _ _ i _ => 16 - (intOf i).toNat)
  case atStart => exact ⟨0, by omega, rfl, rfl, rfl, hB', hR', hBl', hsz⟩
  case round =>
    clear hB' hR' hBl' hsz hh1 hh2
    obtain ⟨k, hk, rfl, rfl, rfl, hB, hR, hBl, hsz⟩ := hrel
    have hcl := cdTo_lt x k hx
    obtain ⟨c, ec⟩ : ∃ c, (cdTo x k).1 = c := ⟨_, rfl⟩
    obtain ⟨d, ed⟩ : ∃ d, (cdTo x k).2 = d := ⟨_, rfl⟩
    rw [ec, ed] at hcl ⊢
    obtain ⟨hcl, hdl⟩ := hcl
    have EC := Lib.hid ec
    have ED := Lib.hid ed
    by_cases hlt : k < 16
    · have HT1 := Lib.hid (show ∀ (y : Nat) (hy : y < 2 ^ 28) (w : World), Calls Tryd.prog 100 #[.int .u64 (nv y), .int .i64 (1 : Int)] w fun e w' => e = .returned (.int .u64 (nv (rot28 y 1))) ∧ Drawn w w' from fun y hy w => turn28_any y 1 hy (.inl rfl) w)
      have HT2 := Lib.hid (show ∀ (y : Nat) (hy : y < 2 ^ 28) (w : World), Calls Tryd.prog 100 #[.int .u64 (nv y), .int .i64 (2 : Int)] w fun e w' => e = .returned (.int .u64 (nv (rot28 y 2))) ∧ Drawn w w' from fun y hy w => turn28_any y 2 hy (.inr rfl) w)
      obtain ⟨hj1, hy1⟩ := join28 (rot28 c 1) (rot28 d 1) (rot28_lt _ _) (rot28_lt _ _)
      obtain ⟨hj2, hy2⟩ := join28 (rot28 c 2) (rot28 d 2) (rot28_lt _ _) (rot28_lt _ _)
      obtain ⟨y1, ey1⟩ : ∃ y, rot28 c 1 * 2 ^ 28 ||| rot28 d 1 = y := ⟨_, rfl⟩
      obtain ⟨y2, ey2⟩ : ∃ y, rot28 c 2 * 2 ^ 28 ||| rot28 d 2 = y := ⟨_, rfl⟩
      rw [ey1] at hj1 hy1
      rw [ey2] at hj2 hy2
      have FIN : ∀ (M s y : Nat), shOf k = s → y = rot28 c s * 2 ^ 28 ||| rot28 d s → ∃ k' : Nat, k' ≤ 16 ∧ Value.int .i64 ((k : Int) + 1) = .int .i64 k' ∧ Value.int .u64 (nv (rot28 c s)) = .int .u64 (nv (cdTo x k').1) ∧ Value.int .u64 (nv (rot28 d s)) = .int .u64 (nv (cdTo x k').2) ∧
          NBlk ((wr.drewN M).setCell ⟨n + 1 + 1, k, none⟩ (.int .u64 (nv (perm y 56 tabPC2)))) (n + 1 + 1) 145 (keysTo x k') ∧ Row ((wr.drewN M).setCell ⟨n + 1 + 1, k, none⟩ (.int .u64 (nv (perm y 56 tabPC2)))) (n + 1) 145 16 ∧ Below n w ((wr.drewN M).setCell ⟨n + 1 + 1, k, none⟩ (.int .u64 (nv (perm y 56 tabPC2)))) ∧ n + 3 ≤ ((wr.drewN M).setCell ⟨n + 1 + 1, k, none⟩ (.int .u64 (nv (perm y 56 tabPC2)))).heap.size := by
        intro M s y hs hy
        have hG : wr.grownBy ((wr.drewN M).setCell ⟨n + 1 + 1, k, none⟩ (.int .u64 (nv (perm y 56 tabPC2)))) (some (n + 1 + 1)) := grown_set (grown_drewN (grown_refl _ _) _) _ _
        have e1 : (cdTo x (k + 1)).1 = rot28 c s := by show rot28 _ _ = _; rw [ec, hs]
        have e2 : (cdTo x (k + 1)).2 = rot28 d s := by show rot28 _ _ = _; rw [ed, hs]
        refine ⟨k + 1, hlt, by go_num, by rw [e1], by rw [e2], ?_, hR.old hG (by simp), below_new hBl (by omega) hG (by omega), by rw [World.size_setCell]; exact hsz⟩
        have ek : dkeyOf x k = perm y 56 tabPC2 := by unfold dkeyOf; rw [e1, e2, hy]
        rw [← keysTo_set x k hlt, ek]
        exact (hB.drewN M).set k _
      have HY1 := Lib.hid hy1
      clear ec ed
      have HY2 := Lib.hid hy2
      have HCL := Lib.hid hcl
      have HDL := Lib.hid hdl
      have HLT := Lib.hid hlt
      have EY1 := Lib.hid ey1
      have EY2 := Lib.hid ey2
      have c1 : wr.cell? ⟨n + 1 + 1, k, none⟩ = some (.int .u64 (nv (gN (keysTo x k) k))) := hB.cell k (by rw [keysTo_len]; exact hlt)
      have f1 : wr.frozen? ⟨n + 1 + 1, k, none⟩ = false := hB.free k
      have HB := Lib.hid hB
      have HF := Lib.hid FIN
      clear FIN hy1 hy2 ey1 ey2 hcl hdl hB hR hBl
      have hcase : k = 0 ∨ k = 1 ∨ k = 8 ∨ k = 15 ∨ (k ≠ 0 ∧ k ≠ 1 ∧ k ≠ 8 ∧ k ≠ 15) := by omega
      rcases hcase with h | h | h | h | h
      · have hb0 : ((k : Int) == 0) = true := by simp [h]
        have hb1 : ((k : Int) == 1) = false := by simp; omega
        have hb8 : ((k : Int) == 8) = false := by simp; omega
        have hb15 : ((k : Int) == 15) = false := by simp; omega
        have HS := Lib.hid (show shOf k = 1 by simp [shOf, h])
        clear h
        go_wp2_with (first
          | (go_at_call 100; (with_reducible refine (HT1.out c HCL.out _).mono ?_); rintro e w' ⟨rfl, ⟨m, rfl⟩⟩)
          | (go_at_call 100; (with_reducible refine (HT1.out d HDL.out _).mono ?_); rintro e w' ⟨rfl, ⟨m', rfl⟩⟩)
          | (go_at_call 72; refine (permute_PC2 y1 _ HY1.out).mono ?_; rintro e w' ⟨rfl, ⟨m'', rfl⟩⟩))
        go_roundw
        case rel => exact HF.out _ _ _ HS.out (by rw [EY1.out])
        case measure => have : k < 16 := HLT.out; simp [intOf]; omega
      · have hb0 : ((k : Int) == 0) = false := by simp; omega
        have hb1 : ((k : Int) == 1) = true := by simp [h]
        have hb8 : ((k : Int) == 8) = false := by simp; omega
        have hb15 : ((k : Int) == 15) = false := by simp; omega
        have HS := Lib.hid (show shOf k = 1 by simp [shOf, h])
        clear h
        go_wp2_with (first
          | (go_at_call 100; (with_reducible refine (HT1.out c HCL.out _).mono ?_); rintro e w' ⟨rfl, ⟨m, rfl⟩⟩)
          | (go_at_call 100; (with_reducible refine (HT1.out d HDL.out _).mono ?_); rintro e w' ⟨rfl, ⟨m', rfl⟩⟩)
          | (go_at_call 72; refine (permute_PC2 y1 _ HY1.out).mono ?_; rintro e w' ⟨rfl, ⟨m'', rfl⟩⟩))
        go_roundw
        case rel => exact HF.out _ _ _ HS.out (by rw [EY1.out])
        case measure => have : k < 16 := HLT.out; simp [intOf]; omega
      · have hb0 : ((k : Int) == 0) = false := by simp; omega
        have hb1 : ((k : Int) == 1) = false := by simp; omega
        have hb8 : ((k : Int) == 8) = true := by simp [h]
        have hb15 : ((k : Int) == 15) = false := by simp; omega
        have HS := Lib.hid (show shOf k = 1 by simp [shOf, h])
        clear h
        go_wp2_with (first
          | (go_at_call 100; (with_reducible refine (HT1.out c HCL.out _).mono ?_); rintro e w' ⟨rfl, ⟨m, rfl⟩⟩)
          | (go_at_call 100; (with_reducible refine (HT1.out d HDL.out _).mono ?_); rintro e w' ⟨rfl, ⟨m', rfl⟩⟩)
          | (go_at_call 72; refine (permute_PC2 y1 _ HY1.out).mono ?_; rintro e w' ⟨rfl, ⟨m'', rfl⟩⟩))
        go_roundw
        case rel => exact HF.out _ _ _ HS.out (by rw [EY1.out])
        case measure => have : k < 16 := HLT.out; simp [intOf]; omega
      · have hb0 : ((k : Int) == 0) = false := by simp; omega
        have hb1 : ((k : Int) == 1) = false := by simp; omega
        have hb8 : ((k : Int) == 8) = false := by simp; omega
        have hb15 : ((k : Int) == 15) = true := by simp [h]
        have HS := Lib.hid (show shOf k = 1 by simp [shOf, h])
        clear h
        go_wp2_with (first
          | (go_at_call 100; (with_reducible refine (HT1.out c HCL.out _).mono ?_); rintro e w' ⟨rfl, ⟨m, rfl⟩⟩)
          | (go_at_call 100; (with_reducible refine (HT1.out d HDL.out _).mono ?_); rintro e w' ⟨rfl, ⟨m', rfl⟩⟩)
          | (go_at_call 72; refine (permute_PC2 y1 _ HY1.out).mono ?_; rintro e w' ⟨rfl, ⟨m'', rfl⟩⟩))
        go_roundw
        case rel => exact HF.out _ _ _ HS.out (by rw [EY1.out])
        case measure => have : k < 16 := HLT.out; simp [intOf]; omega
      · have hb0 : ((k : Int) == 0) = false := by simp; omega
        have hb1 : ((k : Int) == 1) = false := by simp; omega
        have hb8 : ((k : Int) == 8) = false := by simp; omega
        have hb15 : ((k : Int) == 15) = false := by simp; omega
        have HS := Lib.hid (show shOf k = 2 by simp [shOf, h])
        clear h
        go_wp2_with (first
          | (go_at_call 100; (with_reducible refine (HT2.out c HCL.out _).mono ?_); rintro e w' ⟨rfl, ⟨m, rfl⟩⟩)
          | (go_at_call 100; (with_reducible refine (HT2.out d HDL.out _).mono ?_); rintro e w' ⟨rfl, ⟨m', rfl⟩⟩)
          | (go_at_call 72; refine (permute_PC2 y2 _ HY2.out).mono ?_; rintro e w' ⟨rfl, ⟨m'', rfl⟩⟩))
        go_roundw
        case rel => exact HF.out _ _ _ HS.out (by rw [EY2.out])
        case measure => have : k < 16 := HLT.out; simp [intOf]; omega
    · clear ec ed
      have HE := Lib.hid (show k = 16 by omega)
      have HB := Lib.hid (show NBlk wr (n + 1 + 1) 145 (dkeys b) from by unfold dkeys; rw [EX.out, ← HE.out]; exact hB)
      have HBl := Lib.hid hBl
      clear hB hBl
      go_wp2_with (first
        | (refine load_nblk rfl 145 _ rfl (n + 1 + 1) 145 16 144 (dkeys b) rfl HB.out (dkeys_len b) (by kernel_rfl) (by kernel_rfl) ?_)
        | (refine store_nblk rfl 145 _ _ rfl (n + 1) 145 16 (dkeys b) rfl rfl hR (dkeys_len b) (by kernel_rfl) ?_; intro w8 hB8 hG8 hs8))
      refine bodyPost_ret (results_nblk1 rfl _ _ (n + 1) 145 16 144 (dkeys b) rfl hB8 (dkeys_len b) (by kernel_rfl) (by kernel_rfl)) rfl ⟨rfl, ?_⟩
      rw [Hn.out]; exact below_new HBl.out (by omega) hG8 (by omega)
end Go.Proofs.YtbbfjlnkhenbiaaDoor
set_option linter.unusedVariables false
set_option linter.unusedSimpArgs false
namespace Lk
open Go Go.RowKit
/-- which key a round takes -/
def ixOf (back : Bool) (k : Nat) : Nat := bif back then 15 - k else k
/-- both halves ahead of round k -/
def lrTo (ks : List Nat) (back : Bool) (x : Nat) : Nat → Nat × Nat
  | 0 => (x / 4294967296, x &&& 4294967295)
  | k + 1 => ((lrTo ks back x k).2, (lrTo ks back x k).1 ^^^ dmix (lrTo ks back x k).2 (gN ks (ixOf back k)))
def dblock (key b : List UInt8) (back : Bool) : List UInt8 :=
  pbytes (unperm ((lrTo (dkeys key) back (perm (num b) 64 tabIP) 16).2 * 4294967296 ||| (lrTo (dkeys key) back (perm (num b) 64 tabIP) 16).1) tabIP)
theorem len_P : tabP.length = 32 := by decide +kernel
theorem len_IP : tabIP.length = 64 := by decide +kernel
theorem dmix_lt (h k : Nat) : dmix h k < 4294967296 := by
  have := permTo_lt (mixTo h k 8) 32 tabP tabP.length
  unfold dmix perm
  exact Nat.lt_of_lt_of_eq this (by rw [len_P])
theorem perm_IP_lt (x : Nat) : perm x 64 tabIP < 2 ^ 64 := by
  have h := permTo_lt x 64 tabIP tabIP.length
  unfold perm
  exact Nat.lt_of_lt_of_eq h (by rw [len_IP])
theorem unperm_IP_lt (x : Nat) : unperm x tabIP < 2 ^ 64 := unpTo_lt x tabIP tabIP.length (fun j hj => by
  have : ∀ k, k < tabIP.length → 1 ≤ tabIP.getD k 0 := by decide +kernel
  exact this j hj)
theorem lrTo_lt (ks : List Nat) (back : Bool) (x : Nat) (hx : x < 2 ^ 64) (k : Nat) : (lrTo ks back x k).1 < 4294967296 ∧ (lrTo ks back x k).2 < 4294967296 := by
  induction k with
  | zero => exact ⟨by show x / 4294967296 < _; omega, Nat.lt_of_lt_of_eq (Nat.and_lt_two_pow (n := 32) x (by decide)) (by decide)⟩
  | succ k ih => exact ⟨ih.2, Nat.xor_lt_two_pow (n := 32) ih.1 (dmix_lt _ _)⟩
theorem dkeys_lt (b : List UInt8) (k : Nat) : gN (dkeys b) k < 2 ^ 48 := by
  unfold gN dkeys keysTo
  rcases getD_of_mem ((List.range 16).map fun i => if i < 16 then dkeyOf (perm (num b) 64 tabPC1) i else 0) k 0 with h | h
  · obtain ⟨i, hi, e⟩ := List.mem_map.1 h
    rw [← e]
    split
    · exact dkeyOf_lt _ _
    · decide
  · rw [h]; decide
theorem half32_form (x : Nat) (hx : x < 2 ^ 64) : nv x / (4294967296 : Int) = nv (x / 4294967296) ∧ bits BinOp.and IntKind.u64 (nv x) 4294967295 = nv (x &&& 4294967295) := by
  unfold nv
  have e3 : (4294967295 : Int) = ((4294967295 : Nat) : Int) := rfl
  exact ⟨by simp, by rw [e3, bits_and_u64 _ _ hx (by decide)]⟩
theorem join32 (c d : Nat) (hc : c < 4294967296) (hd : d < 4294967296) : bits BinOp.or IntKind.u64 (IntKind.u64.wrap (nv c * (4294967296 : Int))) (nv d) = nv (c * 4294967296 ||| d) ∧ c * 4294967296 ||| d < 2 ^ 64 := by
  unfold nv
  have e1 : (c : Int) * (4294967296 : Int) = ((c * 4294967296 : Nat) : Int) := by simp
  rw [e1, wrap_u64 _ (by omega)]
  exact ⟨bits_or_u64 _ _ (by omega) (by omega), Nat.or_lt_two_pow (by omega) (by omega)⟩
theorem xor32 (c d : Nat) (hc : c < 4294967296) (hd : d < 4294967296) : bits BinOp.xor IntKind.u64 (nv c) (nv d) = nv (c ^^^ d) := by
  unfold nv
  exact bits_xor_u64 _ _ (by omega) (by omega)
end Lk
namespace Go.Proofs.YtbbfjlnkhenbiaaDoor
open Go.RowKit Lk
set_option maxHeartbeats 1600000 in
set_option maxRecDepth 100000 in
theorem Block_any (key b : List UInt8) (back : Bool) (hk : key.length = 8) (hb : b.length = 8) (w : World) : Calls Tryd.prog 53 #[.agg (Bs key), .agg (Bs b), .bool back] w fun e w' => e = .returned (.agg (Bs (dblock key b back))) ∧ Below w.heap.size w w' := by
  obtain ⟨n, hn⟩ : ∃ n, w.heap.size = n := ⟨_, rfl⟩
  have Hn := Lib.hid hn
  have HNB := Lib.hid hb
  have HNK := Lib.hid hk
  have hP := fun w => permute_IP (num b) w (num_lt b)
  have hx := perm_IP_lt (num b)
  obtain ⟨x, ex⟩ : ∃ x, perm (num b) 64 tabIP = x := ⟨_, rfl⟩
  rw [ex] at hx
  simp only [ex] at hP
  have HP := Lib.hid hP
  have EX := Lib.hid ex
  obtain ⟨hh1, hh2⟩ := half32_form x hx
  obtain ⟨ks, eks⟩ : ∃ ks, dkeys key = ks := ⟨_, rfl⟩
  have hR := Rounds_any key hk
  have hkl := dkeys_len key
  have hk48 := dkeys_lt key
  rw [eks] at hkl
  simp only [eks] at hR hk48
  have HRo := Lib.hid hR
  have HKL := Lib.hid hkl
  have HK48 := Lib.hid hk48
  have EKS := Lib.hid eks
  clear hP ex hR hk48 eks
  cases back
  · go_enter Tryd.func53, Tryd.ntmps53
    go_wp2_with (first
      | ((with_reducible show wpList _ _ _ _ _ w); refine box_blk (w := w) rfl 75 _ rfl key rfl ?_; intro w0 hB0 hG0 hs0)
      | ((with_reducible show wpList _ _ _ _ _ w0); refine box_blk (w := w0) rfl 75 _ rfl b rfl ?_; intro w1 hB1 hG1 hs1)
      | ((with_reducible show wpList _ _ _ _ _ w1); refine alloc_row (w := w1) rfl 75 rfl (.agg (Bs (List.replicate 8 0))) 8 (fun _ => by kernel_rfl) rfl ?_; intro w2 hR2 _ hG2 hs2)
      | ((with_reducible show wpList _ _ _ _ _ w2); refine load_blk (w := w2) rfl 75 _ rfl w.heap.size 75 8 5 key rfl ((hB0.old hG1 (by simp)).old hG2 (by simp)) HNK.out (by kernel_rfl) (by kernel_rfl) ?_)
      | (go_at_call 71; refine (HRo.out _).mono ?_; rintro e w3 ⟨rfl, hG3⟩)
      | ((with_reducible show wpList _ _ _ _ _ w3); refine alloc_row (w := w3) rfl 145 rfl (.agg (Ns (List.replicate 16 0))) 16 (fun _ => by kernel_rfl) rfl ?_; intro w4 hR4 _ hG4 hs4)
      | ((with_reducible show wpList _ _ _ _ _ w4); refine store_nblk (w := w4) rfl 145 _ _ rfl w3.heap.size 145 16 ks rfl rfl hR4 HKL.out (by kernel_rfl) ?_; intro w5 hB5 hG5 hs5)
      | ((with_reducible show wpList _ _ _ _ _ w5); refine load_blk (w := w5) rfl 75 _ rfl (n + 1) 75 8 5 b rfl (by
          have e0 : w0.heap.size = n + 1 := by omega
          have := hG3.size
          rw [e0] at hB1
          exact ((((hB1.old hG2 (by simp)).below hG3 (by omega)).old hG4 (by simp)).old hG5 (by simp; omega))) HNB.out (by kernel_rfl) (by kernel_rfl) ?_)
      | (go_at_call 73; refine (number_any b HNB.out _).mono ?_; rintro e w6 ⟨rfl, hG6⟩)
      | (go_at_call 72; refine (HP.out _).mono ?_; rintro e w7 ⟨rfl, hD7⟩))
    have h3 := hG3.size
    have e2 : w2.heap.size = n + 1 + 1 + 1 := by omega
    have e3 : n + 3 ≤ w3.heap.size := by omega
    obtain ⟨g, eg⟩ : ∃ g, w3.heap.size = g := ⟨_, rfl⟩
    have hR5 : Row w5 (n + 1 + 1) 75 8 := by
      have e1 : w1.heap.size = n + 1 + 1 := by omega
      rw [e1] at hR2
      obtain ⟨old, h1, h2⟩ := hR2
      have hR3 : Row w3 (n + 1 + 1) 75 8 := ⟨old, by rw [hG3.block _ (by omega)]; exact h1, h2⟩
      exact (hR3.old hG4 (by simp)).old hG5 (by simp; omega)
    have hBl5 : Below n w w5 := below_new (below_none (below_more (below_none (below_none (below_none (Below.refl n w) (by omega) hG0) (by omega) hG1) (by omega) hG2) hG3 (by omega)) (by omega) hG4) (by omega) hG5 (by omega)
    obtain ⟨m, rfl⟩ := hD7
    have hB7 : NBlk (w6.drewN m) g 145 ks := by rw [eg] at hB5; exact (hB5.below hG6 (by omega)).drewN m
    have hR7 : Row (w6.drewN m) (n + 1 + 1) 75 8 := by
      obtain ⟨old, h1, h2⟩ := hR5
      exact ⟨old, by show w6.heap[n + 1 + 1]? = _; rw [hG6.block _ (by omega)]; exact h1, h2⟩
    have hBl7 : Below n w (w6.drewN m) := by
      have h3 : Below n w w6 := below_more hBl5 hG6 (by omega)
      exact ⟨h3.os, h3.tape, h3.output, h3.size, h3.block⟩
    have hsz : g + 1 ≤ (w6.drewN m).heap.size := by have := hG6.size; show g + 1 ≤ w6.heap.size; omega
    have hgn : n + 3 ≤ g := by omega
    rw [eg]
    clear hB0 hG0 hs0 hB1 hG1 hs1 hR2 hG2 hs2 hR4 hG4 hs4 hB5 hG5 hs5 hR5 hBl5 h3 e2 e3 eg hG3 hG6 hn
    obtain ⟨w8, ew8⟩ : ∃ w8, w6.drewN m = w8 := ⟨_, rfl⟩
    rw [ew8] at hB7 hR7 hBl7 hsz ⊢
    clear ew8
    go_loopw [9, 10, 21] (fun l r i wr => ∃ k : Nat, k ≤ 16 ∧ i = .int .i64 k ∧ l = .int .u64 (nv (lrTo ks false x k).1) ∧ r = .int .u64 (nv (lrTo ks false x k).2) ∧ NBlk wr g 145 ks ∧ Row wr (n + 1 + 1) 75 8 ∧ Below n w wr ∧ g + 1 ≤ wr.heap.size) (fun _ _ i _ => 16 - (intOf i).toNat)
    case atStart => exact ⟨0, by omega, rfl, rfl, rfl, hB7, hR7, hBl7, hsz⟩
    case round =>
      clear hB7 hR7 hBl7 hsz hh1 hh2
      obtain ⟨k, hk, rfl, rfl, rfl, hB, hR, hBl, hsz⟩ := hrel
      obtain ⟨hll, hrl⟩ := lrTo_lt ks false x hx k
      obtain ⟨l, el⟩ : ∃ l, (lrTo ks false x k).1 = l := ⟨_, rfl⟩
      obtain ⟨r, er⟩ : ∃ r, (lrTo ks false x k).2 = r := ⟨_, rfl⟩
      rw [el] at hll
      rw [er] at hrl
      rw [el, er]
      have EL := Lib.hid el
      have ER := Lib.hid er
      by_cases hlt : k < 16
      · obtain ⟨j, ej⟩ : ∃ j, k = j := ⟨_, rfl⟩
        have hj : j < 16 := by omega
        have c1 : wr.cell? ⟨g, k, none⟩ = some (.int .u64 (nv (gN ks j))) := by rw [ej]; exact hB.cell j (by rw [HKL.out]; exact hj)
        have hq := HK48.out j
        obtain ⟨q, eq⟩ : ∃ q, gN ks j = q := ⟨_, rfl⟩
        rw [eq] at c1 hq
        have hxo := xor32 l (dmix r q) hll (dmix_lt _ _)
        have HM := Lib.hid (mix_any r q wr (Nat.lt_of_lt_of_eq hrl (by decide)) hq)
        have FIN : ∀ M : Nat, ∃ k' : Nat, k' ≤ 16 ∧ Value.int .i64 ((k : Int) + 1) = .int .i64 k' ∧ Value.int .u64 (nv r) = .int .u64 (nv (lrTo ks false x k').1) ∧ Value.int .u64 (nv (l ^^^ dmix r q)) = .int .u64 (nv (lrTo ks false x k').2) ∧ NBlk (wr.drewN M) g 145 ks ∧ Row (wr.drewN M) (n + 1 + 1) 75 8 ∧ Below n w (wr.drewN M) ∧ g + 1 ≤ (wr.drewN M).heap.size := by
          intro M
          refine ⟨k + 1, hlt, by go_num, ?_, ?_, hB.drewN M, hR, ⟨hBl.os, hBl.tape, hBl.output, hBl.size, hBl.block⟩, hsz⟩
          · show _ = Value.int .u64 (nv (lrTo ks false x k).2); rw [er]
          · have e : ixOf false k = j := by rw [← ej]; rfl
            show _ = Value.int .u64 (nv ((lrTo ks false x k).1 ^^^ dmix (lrTo ks false x k).2 (gN ks (ixOf false k)))); rw [el, er, e, eq]
        have HF := Lib.hid FIN
        have HL := Lib.hid hlt
        clear FIN el er ej hj hq eq hll hrl hB hR hBl
        go_wp2_with (go_at_call 74; refine HM.out.mono ?_; rintro e w' ⟨rfl, ⟨M, rfl⟩⟩)
        go_roundw
        case rel => exact HF.out M
        case measure => have : k < 16 := HL.out; simp [intOf]; omega
      · have HE := Lib.hid (show k = 16 by omega)
        obtain ⟨hj, hy⟩ := join32 r l hrl hll
        obtain ⟨y, ey⟩ : ∃ y, r * 4294967296 ||| l = y := ⟨_, rfl⟩
        rw [ey] at hj hy
        have HU := Lib.hid (unpermute_IP y wr hy)
        have HZ := Lib.hid (unperm_IP_lt y)
        have HRs := Lib.hid (show dblock key b false = pbytes (unperm y tabIP) by
          unfold dblock
          rw [EKS.out, EX.out, ← HE.out, el, er, ey])
        have HR := Lib.hid hR
        have HBl := Lib.hid hBl
        clear el er ey hy hll hrl hB hR hBl
        go_wp2_with (first
          | (go_at_call 76; refine HU.out.mono ?_; rintro e w' ⟨rfl, ⟨M, rfl⟩⟩)
          | (go_at_call 75; refine (bytes_any _ HZ.out _).mono ?_; rintro e w9 ⟨rfl, hG9⟩)
          | (refine store_blk rfl 75 _ _ rfl (n + 1 + 1) 75 8 (pbytes (unperm y tabIP)) rfl rfl (by
              obtain ⟨old, h1, h2⟩ := HR.out
              have e : (wr.drewN M).heap = wr.heap := rfl
              rw [e] at hG9
              exact ⟨old, by rw [hG9.block _ (by omega)]; exact h1, h2⟩) (pbytes_len _) (by kernel_rfl) ?_; intro w10 hB10 hG10 hs10))
        refine bodyPost_ret (results_blk1 rfl _ _ (n + 1 + 1) 75 8 5 (pbytes (unperm y tabIP)) rfl hB10 (pbytes_len _) (by kernel_rfl) (by kernel_rfl)) rfl ⟨by rw [HRs.out], ?_⟩
        have hb9 : Below n w (wr.drewN M) := ⟨HBl.out.os, HBl.out.tape, HBl.out.output, HBl.out.size, HBl.out.block⟩
        have e : (wr.drewN M).heap = wr.heap := rfl
        rw [e] at hG9
        have hs9 := hG9.size
        rw [e] at hs9
        rw [Hn.out]
        exact below_new (below_more hb9 hG9 (by omega)) (by omega) hG10 (by omega)
  · go_enter Tryd.func53, Tryd.ntmps53
    go_wp2_with (first
      | ((with_reducible show wpList _ _ _ _ _ w); refine box_blk (w := w) rfl 75 _ rfl key rfl ?_; intro w0 hB0 hG0 hs0)
      | ((with_reducible show wpList _ _ _ _ _ w0); refine box_blk (w := w0) rfl 75 _ rfl b rfl ?_; intro w1 hB1 hG1 hs1)
      | ((with_reducible show wpList _ _ _ _ _ w1); refine alloc_row (w := w1) rfl 75 rfl (.agg (Bs (List.replicate 8 0))) 8 (fun _ => by kernel_rfl) rfl ?_; intro w2 hR2 _ hG2 hs2)
      | ((with_reducible show wpList _ _ _ _ _ w2); refine load_blk (w := w2) rfl 75 _ rfl w.heap.size 75 8 5 key rfl ((hB0.old hG1 (by simp)).old hG2 (by simp)) HNK.out (by kernel_rfl) (by kernel_rfl) ?_)
      | (go_at_call 71; refine (HRo.out _).mono ?_; rintro e w3 ⟨rfl, hG3⟩)
      | ((with_reducible show wpList _ _ _ _ _ w3); refine alloc_row (w := w3) rfl 145 rfl (.agg (Ns (List.replicate 16 0))) 16 (fun _ => by kernel_rfl) rfl ?_; intro w4 hR4 _ hG4 hs4)
      | ((with_reducible show wpList _ _ _ _ _ w4); refine store_nblk (w := w4) rfl 145 _ _ rfl w3.heap.size 145 16 ks rfl rfl hR4 HKL.out (by kernel_rfl) ?_; intro w5 hB5 hG5 hs5)
      | ((with_reducible show wpList _ _ _ _ _ w5); refine load_blk (w := w5) rfl 75 _ rfl (n + 1) 75 8 5 b rfl (by
          have e0 : w0.heap.size = n + 1 := by omega
          have := hG3.size
          rw [e0] at hB1
          exact ((((hB1.old hG2 (by simp)).below hG3 (by omega)).old hG4 (by simp)).old hG5 (by simp; omega))) HNB.out (by kernel_rfl) (by kernel_rfl) ?_)
      | (go_at_call 73; refine (number_any b HNB.out _).mono ?_; rintro e w6 ⟨rfl, hG6⟩)
      | (go_at_call 72; refine (HP.out _).mono ?_; rintro e w7 ⟨rfl, hD7⟩))
    have h3 := hG3.size
    have e2 : w2.heap.size = n + 1 + 1 + 1 := by omega
    have e3 : n + 3 ≤ w3.heap.size := by omega
    obtain ⟨g, eg⟩ : ∃ g, w3.heap.size = g := ⟨_, rfl⟩
    have hR5 : Row w5 (n + 1 + 1) 75 8 := by
      have e1 : w1.heap.size = n + 1 + 1 := by omega
      rw [e1] at hR2
      obtain ⟨old, h1, h2⟩ := hR2
      have hR3 : Row w3 (n + 1 + 1) 75 8 := ⟨old, by rw [hG3.block _ (by omega)]; exact h1, h2⟩
      exact (hR3.old hG4 (by simp)).old hG5 (by simp; omega)
    have hBl5 : Below n w w5 := below_new (below_none (below_more (below_none (below_none (below_none (Below.refl n w) (by omega) hG0) (by omega) hG1) (by omega) hG2) hG3 (by omega)) (by omega) hG4) (by omega) hG5 (by omega)
    obtain ⟨m, rfl⟩ := hD7
    have hB7 : NBlk (w6.drewN m) g 145 ks := by rw [eg] at hB5; exact (hB5.below hG6 (by omega)).drewN m
    have hR7 : Row (w6.drewN m) (n + 1 + 1) 75 8 := by
      obtain ⟨old, h1, h2⟩ := hR5
      exact ⟨old, by show w6.heap[n + 1 + 1]? = _; rw [hG6.block _ (by omega)]; exact h1, h2⟩
    have hBl7 : Below n w (w6.drewN m) := by
      have h3 : Below n w w6 := below_more hBl5 hG6 (by omega)
      exact ⟨h3.os, h3.tape, h3.output, h3.size, h3.block⟩
    have hsz : g + 1 ≤ (w6.drewN m).heap.size := by have := hG6.size; show g + 1 ≤ w6.heap.size; omega
    have hgn : n + 3 ≤ g := by omega
    rw [eg]
    clear hB0 hG0 hs0 hB1 hG1 hs1 hR2 hG2 hs2 hR4 hG4 hs4 hB5 hG5 hs5 hR5 hBl5 h3 e2 e3 eg hG3 hG6 hn
    obtain ⟨w8, ew8⟩ : ∃ w8, w6.drewN m = w8 := ⟨_, rfl⟩
    rw [ew8] at hB7 hR7 hBl7 hsz ⊢
    clear ew8
    go_loopw [9, 10, 21] (fun l r i wr => ∃ k : Nat, k ≤ 16 ∧ i = .int .i64 k ∧ l = .int .u64 (nv (lrTo ks true x k).1) ∧ r = .int .u64 (nv (lrTo ks true x k).2) ∧ NBlk wr g 145 ks ∧ Row wr (n + 1 + 1) 75 8 ∧ Below n w wr ∧ g + 1 ≤ wr.heap.size) (fun _ _ i _ => 16 - (intOf i).toNat)
    case atStart => exact ⟨0, by omega, rfl, rfl, rfl, hB7, hR7, hBl7, hsz⟩
    case round =>
      clear hB7 hR7 hBl7 hsz hh1 hh2
      obtain ⟨k, hk, rfl, rfl, rfl, hB, hR, hBl, hsz⟩ := hrel
      obtain ⟨hll, hrl⟩ := lrTo_lt ks true x hx k
      obtain ⟨l, el⟩ : ∃ l, (lrTo ks true x k).1 = l := ⟨_, rfl⟩
      obtain ⟨r, er⟩ : ∃ r, (lrTo ks true x k).2 = r := ⟨_, rfl⟩
      rw [el] at hll
      rw [er] at hrl
      rw [el, er]
      have EL := Lib.hid el
      have ER := Lib.hid er
      by_cases hlt : k < 16
      · obtain ⟨j, ej⟩ : ∃ j, (15 - k) = j := ⟨_, rfl⟩
        have hj : j < 16 := by omega
        have c1 : wr.cell? ⟨g, (15 - k), none⟩ = some (.int .u64 (nv (gN ks j))) := by rw [ej]; exact hB.cell j (by rw [HKL.out]; exact hj)
        have hq := HK48.out j
        obtain ⟨q, eq⟩ : ∃ q, gN ks j = q := ⟨_, rfl⟩
        rw [eq] at c1 hq
        have hxo := xor32 l (dmix r q) hll (dmix_lt _ _)
        have HM := Lib.hid (mix_any r q wr (Nat.lt_of_lt_of_eq hrl (by decide)) hq)
        have FIN : ∀ M : Nat, ∃ k' : Nat, k' ≤ 16 ∧ Value.int .i64 ((k : Int) + 1) = .int .i64 k' ∧ Value.int .u64 (nv r) = .int .u64 (nv (lrTo ks true x k').1) ∧ Value.int .u64 (nv (l ^^^ dmix r q)) = .int .u64 (nv (lrTo ks true x k').2) ∧ NBlk (wr.drewN M) g 145 ks ∧ Row (wr.drewN M) (n + 1 + 1) 75 8 ∧ Below n w (wr.drewN M) ∧ g + 1 ≤ (wr.drewN M).heap.size := by
          intro M
          refine ⟨k + 1, hlt, by go_num, ?_, ?_, hB.drewN M, hR, ⟨hBl.os, hBl.tape, hBl.output, hBl.size, hBl.block⟩, hsz⟩
          · show _ = Value.int .u64 (nv (lrTo ks true x k).2); rw [er]
          · have e : ixOf true k = j := by rw [← ej]; rfl
            show _ = Value.int .u64 (nv ((lrTo ks true x k).1 ^^^ dmix (lrTo ks true x k).2 (gN ks (ixOf true k)))); rw [el, er, e, eq]
        have HF := Lib.hid FIN
        have HL := Lib.hid hlt
        clear FIN el er ej hj hq eq hll hrl hB hR hBl
        go_wp2_with (go_at_call 74; refine HM.out.mono ?_; rintro e w' ⟨rfl, ⟨M, rfl⟩⟩)
        go_roundw
        case rel => exact HF.out M
        case measure => have : k < 16 := HL.out; simp [intOf]; omega
      · have HE := Lib.hid (show k = 16 by omega)
        obtain ⟨hj, hy⟩ := join32 r l hrl hll
        obtain ⟨y, ey⟩ : ∃ y, r * 4294967296 ||| l = y := ⟨_, rfl⟩
        rw [ey] at hj hy
        have HU := Lib.hid (unpermute_IP y wr hy)
        have HZ := Lib.hid (unperm_IP_lt y)
        have HRs := Lib.hid (show dblock key b true = pbytes (unperm y tabIP) by
          unfold dblock
          rw [EKS.out, EX.out, ← HE.out, el, er, ey])
        have HR := Lib.hid hR
        have HBl := Lib.hid hBl
        clear el er ey hy hll hrl hB hR hBl
        go_wp2_with (first
          | (go_at_call 76; refine HU.out.mono ?_; rintro e w' ⟨rfl, ⟨M, rfl⟩⟩)
          | (go_at_call 75; refine (bytes_any _ HZ.out _).mono ?_; rintro e w9 ⟨rfl, hG9⟩)
          | (refine store_blk rfl 75 _ _ rfl (n + 1 + 1) 75 8 (pbytes (unperm y tabIP)) rfl rfl (by
              obtain ⟨old, h1, h2⟩ := HR.out
              have e : (wr.drewN M).heap = wr.heap := rfl
              rw [e] at hG9
              exact ⟨old, by rw [hG9.block _ (by omega)]; exact h1, h2⟩) (pbytes_len _) (by kernel_rfl) ?_; intro w10 hB10 hG10 hs10))
        refine bodyPost_ret (results_blk1 rfl _ _ (n + 1 + 1) 75 8 5 (pbytes (unperm y tabIP)) rfl hB10 (pbytes_len _) (by kernel_rfl) (by kernel_rfl)) rfl ⟨by rw [HRs.out], ?_⟩
        have hb9 : Below n w (wr.drewN M) := ⟨HBl.out.os, HBl.out.tape, HBl.out.output, HBl.out.size, HBl.out.block⟩
        have e : (wr.drewN M).heap = wr.heap := rfl
        rw [e] at hG9
        have hs9 := hG9.size
        rw [e] at hs9
        rw [Hn.out]
        exact below_new (below_more hb9 hG9 (by omega)) (by omega) hG10 (by omega)
end Go.Proofs.YtbbfjlnkhenbiaaDoor
set_option linter.unusedVariables false
set_option linter.unusedSimpArgs false
namespace Lk
open Go Go.RowKit
/-- bytes put over others, from o on -/
def putAt : List UInt8 → Nat → List UInt8 → List UInt8
  | L, _, [] => L
  | L, o, x :: r => putAt (L.set o x) (o + 1) r
theorem putAt_len (l : List UInt8) : ∀ (L : List UInt8) (o : Nat), (putAt L o l).length = L.length := by
  induction l with
  | nil => intro L o; rfl
  | cons x r ih => intro L o; show (putAt (L.set o x) (o + 1) r).length = _; rw [ih, List.length_set]
theorem putAt_eq (l : List UInt8) : ∀ (L : List UInt8) (o : Nat), o + l.length ≤ L.length → putAt L o l = L.take o ++ l ++ L.drop (o + l.length) := by
  induction l with
  | nil => intro L o h; show L = _; simp
  | cons x r ih =>
    intro L o h
    simp only [List.length_cons] at h
    show putAt (L.set o x) (o + 1) r = _
    rw [ih _ _ (by rw [List.length_set]; omega)]
    rw [List.drop_set_of_lt (by omega)]
    rw [List.take_set, List.take_succ_eq_append_getElem (by omega), List.set_append_right _ _ (by simp; omega)]
    simp only [List.length_take, List.length_cons]
    have : min o L.length = o := by omega
    rw [this]
    simp [Nat.add_assoc, Nat.add_comm 1]
theorem Blk.setCells {g T : Nat} : ∀ (l : List UInt8) (w : World) (L : List UInt8) (o : Nat), Blk w g T L → Blk (w.setCells g o (l.map fun x => Value.int .u8 (bv x))) g T (putAt L o l)
  | [], w, L, o, h => h
  | x :: r, w, L, o, h => Blk.setCells r _ _ _ (h.set o x)
theorem grown_setCells {g : Nat} : ∀ (vs : List Value) (w w1 : World) (o : Nat), w.grownBy w1 (some g) → w.grownBy (w1.setCells g o vs) (some g)
  | [], w, w1, o, h => h
  | v :: r, w, w1, o, h => grown_setCells r w _ _ (grown_set h o v)
theorem size_setCells {g : Nat} : ∀ (vs : List Value) (w : World) (o : Nat), (w.setCells g o vs).heap.size = w.heap.size
  | [], w, o => rfl
  | v :: r, w, o => by
    show ((w.setCell ⟨g, o, none⟩ v).setCells g (o + 1) r).heap.size = _
    rw [size_setCells r, World.size_setCell]
theorem Blk.there {w : World} {g T : Nat} {L : List UInt8} (h : Blk w g T L) (o n : Nat) (hn : o + n ≤ L.length) : w.there g o n := fun j hj =>
  ⟨by rw [h.cell (o + j) (by omega)]; rfl, h.free _⟩
theorem Blk.rd {w : World} {g T : Nat} {L : List UInt8} (h : Blk w g T L) (o n : Nat) (hn : o + n ≤ L.length) : Rd w g o ((L.drop o).take n) := by
  intro k hk
  rw [List.length_take, List.length_drop] at hk
  rw [h.cell (o + k) (by omega)]
  have : g8 L (o + k) = g8 ((L.drop o).take n) k := by
    unfold g8
    rw [List.getD_eq_getElem?_getD, List.getD_eq_getElem?_getD, List.getElem?_take_of_lt (by omega), List.getElem?_drop]
  rw [this]
theorem Rd.below {w w1 : World} {g o B : Nat} {l : List UInt8} (h : Rd w g o l) (hG : Below B w w1) (hg : g < B) : Rd w1 g o l := by
  intro k hk
  have := hG.block g hg
  have h := h k hk
  simp only [World.cell?] at h ⊢
  rw [this]; exact h
section
variable {P : Program} {ops : Array Oper} {rest : List Oper} {o : Oper} {a : Act} {w : World} {Q : Exit → Act → World → Prop}
theorem store_mid (hgd : o.guard = none) (ty : TypeId) (x y : Operand) (ho : o.op = .store ty x y) (g k T m : Nat) (L l : List UInt8) (hx : a.eval x = .pointer (some ⟨g, k, none⟩)) (hy : a.eval y = .agg (Bs l)) (hB : Blk w g T L) (hm : l.length = m) (hl : k + m ≤ L.length)
    (hi : (P.info? ty).map (·.size) = some m)
    (h : ∀ w1, Blk w1 g T (putAt L k l) → w.grownBy w1 (some g) → w1.heap.size = w.heap.size → wpList P ops Q rest (a.put o.dst undef) w1) : wpList P ops Q (o :: rest) a w := by
  subst hm
  refine wpList_store_mid hgd ty x y ho g k (Bs l) hx hy (by rw [Bs_size]; exact hB.there k _ hl) (by rw [Bs_size, hi]) (Bs_one l) ?_
  have e : (Bs l).toList = l.map fun x => Value.int .u8 (bv x) := by simp [Bs]
  rw [e]
  exact h _ (Blk.setCells l w L k hB) (grown_setCells _ _ _ _ (grown_refl _ _)) (size_setCells _ _ _)
theorem load_blkm (hgd : o.guard = none) (ty : TypeId) (x : Operand) (ho : o.op = .load ty x) (g T n e m : Nat) (l : List UInt8) (hx : a.eval x = .pointer (some ⟨g, 0, none⟩)) (hB : Blk w g T l) (hl : l.length = m)
    (hu : P.underlying ty = some (.array n e)) (hi : (P.info? ty).map (·.size) = some m)
    (h : wpList P ops Q rest (a.put o.dst (.agg (Bs l))) w) : wpList P ops Q (o :: rest) a w :=
  wpList_load_row hgd ty x ho g hx T (Bs l) (0, 0) _ hB hu rfl (by rw [Bs_size, hl, hi]) h
theorem results_blkm {fn : Func} {p u : Tmp} {ty : TypeId} (h : fn.results = #[.cell p ty, .tmp u]) (tmps : Array Value) (w : World) (g T n e m : Nat) (l : List UInt8)
    (hp : tmps.getD p undef = .pointer (some ⟨g, 0, none⟩)) (hg : Blk w g T l) (hl : l.length = m)
    (hu : P.underlying ty = some (.array n e)) (hi : (P.info? ty).map (·.size) = some m) :
    (results fn tmps).run P w = .ok (.tuple #[.agg (Bs l), tmps.getD u undef]) w := by
  rw [results_cell_tmp h, hp]
  have : (loadVar ty ⟨g, 0, none⟩).run P w = .ok (.agg (Bs l)) w := run_loadVar_row w g T ty (Bs l) (0, 0) _ hg hu rfl (by rw [Bs_size, hl, hi])
  simp only [asAddr, Sem.run_pure, Result.andThen, this]
end
end Lk
