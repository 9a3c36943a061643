/- mode.Xor in all its cases. -/
import Derived.Test.YtbbfjlnkhenbiaaDoorKB4
import Derived.Test.YtbbfjlnkhenbiaaDoorKB5
import Derived.Test.YtbbfjlnkhenbiaaDoorKB8
import Derived.Test.YtbbfjlnkhenbiaaDoorKB7
set_option linter.unusedVariables false
set_option linter.unusedSimpArgs false
namespace Lk
open Go Go.RowKit
theorem blk_own {w : World} {g base : Nat} {l : List UInt8} (h : Blk w g u8t l) (hb : base ≤ g) (hl : l.length ≤ 1000000) : Own w base (.slice (some ⟨g, 0, none⟩) l.length l.length) l :=
  ⟨by rw [Bl_len, Nat.mul_one], .inr ⟨g, l.length, Bs l, rfl, hb, h, Nat.le_refl _, by unfold maxLen; omega, by rw [Bs_size, Nat.mul_one], by
    rw [Nat.mul_one]
    unfold Bl Bs
    exact List.take_of_length_le (by simp)⟩⟩
end Lk
namespace Go.Proofs.YtbbfjlnkhenbiaaDoor
open Go.RowKit Lk
end Go.Proofs.YtbbfjlnkhenbiaaDoor
set_option linter.unusedVariables false
set_option linter.unusedSimpArgs false
namespace Lk
open Go Go.RowKit
def gl (ls : List (List UInt8)) (k : Nat) : List UInt8 := ls.getD k []
def xorPre (ls : List (List UInt8)) : Nat → List UInt8
  | 0 => []
  | k + 1 => if k = 0 then gl ls 0 else pxor (xorPre ls k) (gl ls k)
def pjoin (kind : Int) (ls : List (List UInt8)) : List UInt8 := if kind = 2 then podds (xorPre ls ls.length) else xorPre ls ls.length
def badFrom (kind : Int) (m : Nat) : List (List UInt8) → Nat → Option Nat
  | [], _ => none
  | l :: r, i => if psz kind l.length ≠ 0 ∨ l.length ≠ m then some i else badFrom kind m r (i + 1)
def pbad (kind : Int) (ls : List (List UInt8)) : Option Nat := badFrom kind (gl ls 0).length ls 0
theorem gl_get (ls : List (List UInt8)) (k : Nat) (h : k < ls.length) : ls[k]? = some (gl ls k) := by
  unfold gl; rw [List.getElem?_eq_getElem h, List.getD_eq_getElem?_getD, List.getElem?_eq_getElem h]; rfl
theorem gl_drop (ls : List (List UInt8)) (k : Nat) (h : k < ls.length) : ls.drop k = gl ls k :: ls.drop (k + 1) := by
  rw [List.drop_eq_getElem_cons h]; congr 1
  unfold gl; rw [List.getD_eq_getElem?_getD, List.getElem?_eq_getElem h]; rfl
theorem bad_yes (kind : Int) (m : Nat) (ls : List (List UInt8)) (k : Nat) (h : k < ls.length) (hb : psz kind (gl ls k).length ≠ 0 ∨ (gl ls k).length ≠ m) : badFrom kind m (ls.drop k) k = some k := by
  rw [gl_drop ls k h, badFrom, if_pos hb]
theorem bad_no (kind : Int) (m : Nat) (ls : List (List UInt8)) (k : Nat) (h : k < ls.length) (h1 : psz kind (gl ls k).length = 0) (h2 : (gl ls k).length = m) : badFrom kind m (ls.drop k) k = badFrom kind m (ls.drop (k + 1)) (k + 1) := by
  rw [gl_drop ls k h, badFrom, if_neg (fun h => h.elim (fun x => x h1) (fun x => x h2))]
theorem bad_end (kind : Int) (m : Nat) (ls : List (List UInt8)) (k : Nat) (h : ls.length ≤ k) : badFrom kind m (ls.drop k) k = none := by
  rw [List.drop_eq_nil_of_le h, badFrom]
theorem psz_02 {kind : Int} (h : kind = 1 ∨ kind = 2) (n : Nat) : psz kind n = 0 ∨ psz kind n = 2 := by
  unfold psz
  rw [if_neg (by omega)]
  split <;> simp
end Lk
namespace Go.Proofs.YtbbfjlnkhenbiaaDoor
open Go.RowKit Lk
/-- what part.Join comes to -/
def JoinR (w : World) (N : Nat) (kind : Int) (ls : List (List UInt8)) (v u : Value) : Prop :=
  match pbad kind ls with
  | some i => v = .slice none 0 0 ∧ ErV w [(i : Int)] 2 u
  | none => u = .nilIface ∧ Own w N v (pjoin kind ls)
theorem JoinR.bad {w : World} {N : Nat} {kind : Int} {ls : List (List UInt8)} {u : Value} {i : Nat} (h : pbad kind ls = some i) (he : ErV w [(i : Int)] 2 u) : JoinR w N kind ls (.slice none 0 0) u := by
  unfold JoinR; rw [h]; exact ⟨rfl, he⟩
theorem JoinR.ok {w : World} {N : Nat} {kind : Int} {ls : List (List UInt8)} {v : Value} (h : pbad kind ls = none) (ho : Own w N v (pjoin kind ls)) : JoinR w N kind ls v .nilIface := by
  unfold JoinR; rw [h]; exact ⟨rfl, ho⟩
theorem er_alloc (w : World) (k : Nat) (z : Int) (u : Value) (hu : u = .iface 68 (.int .i64 z)) : ErV (w.alloc (.cells #[.int .i64 (k : Int), u] 180)) [(k : Int)] z (.iface 178 (.pointer (some ⟨w.heap.size, 0, none⟩))) :=
  ⟨w.heap.size, u, rfl, heap_alloc_new w _, hu⟩
end Go.Proofs.YtbbfjlnkhenbiaaDoor
set_option linter.unusedVariables false
set_option linter.unusedSimpArgs false
namespace Lk
open Go Go.RowKit
def pvalue (kind : Nat) (key : List UInt8) : List UInt8 := if kind = 2 then (ptriple key (List.replicate 8 0) false).take 3 else (pcmac 1 key (List.replicate 16 0)).take 3
theorem psz_fits1 {n : Nat} (h : psz 1 n = 0) : pfits 1 n = true := by
  unfold psz at h; unfold pfits
  rw [if_neg (by omega)] at h
  split at h
  · rename_i hh; simp; omega
  · omega
theorem psz_fits2 {n : Nat} (h : psz 2 n = 0) : pfits 2 n = true := by
  unfold psz at h; unfold pfits
  rw [if_neg (by omega)] at h
  split at h
  · rename_i hh; simp; omega
  · omega
end Lk
namespace Go.Proofs.YtbbfjlnkhenbiaaDoor
open Go.RowKit Lk
end Go.Proofs.YtbbfjlnkhenbiaaDoor
set_option linter.unusedVariables false
set_option linter.unusedSimpArgs false
namespace Lk
open Go Go.RowKit
def xAt (ls : List (List UInt8)) (i : Nat) : Nat → UInt8
  | 0 => 0
  | k + 1 => xAt ls i k ^^^ g8 (gl ls k) i
theorem xorPre_len (ls : List (List UInt8)) (m : Nat) (hl : ∀ k, k < ls.length → (gl ls k).length = m) (hn : 0 < ls.length) : ∀ k, (xorPre ls (k + 1)).length = m
  | 0 => hl 0 hn
  | k + 1 => by
    rw [xorPre, if_neg (by omega), pxor_len]
    exact xorPre_len ls m hl hn k
theorem xAt_pre (ls : List (List UInt8)) (m i : Nat) (hi : i < m) (hl : ∀ k, k < ls.length → (gl ls k).length = m) (hn : 0 < ls.length) : ∀ k, k < ls.length → xAt ls i (k + 1) = g8 (xorPre ls (k + 1)) i
  | 0, _ => by simp [xAt, xorPre]
  | k + 1, hk => by
    rw [xAt, xAt_pre ls m i hi hl hn k (by omega)]
    rw [show xorPre ls (k + 1 + 1) = pxor (xorPre ls (k + 1)) (gl ls (k + 1)) from by rw [xorPre, if_neg (by omega)]]
    rw [pxor_at _ _ i (by rw [xorPre_len ls m hl hn k]; exact hi)]
end Lk
namespace Go.Proofs.YtbbfjlnkhenbiaaDoor
open Go.RowKit Lk
end Go.Proofs.YtbbfjlnkhenbiaaDoor
set_option linter.unusedVariables false
set_option linter.unusedSimpArgs false
namespace Lk
open Go Go.RowKit
def z16 : List UInt8 := List.replicate 16 0
def o16 : List UInt8 := List.replicate 16 1
theorem ev_odds : podds z16 = o16 := by decide +kernel
theorem ev_value : pvalue 2 z16 = [140, 166, 77] := by decide +kernel
theorem ev_join : pjoin 1 [z16, o16] = o16 := by decide +kernel
theorem ev_bad : pbad 1 [z16, o16] = none := by decide +kernel
end Lk
namespace Go.Proofs.YtbbfjlnkhenbiaaDoor
open Lk
theorem ev_rz : pright 2 z16 = some ([0], 3) := by decide +kernel
theorem ev_ro : pright 2 o16 = none := by decide +kernel
end Go.Proofs.YtbbfjlnkhenbiaaDoor
set_option linter.unusedVariables false
set_option linter.unusedSimpArgs false
namespace Go.Proofs.YtbbfjlnkhenbiaaDoor
open Go.RowKit Lk
theorem slSl_two {w : World} {g1 g2 n c1 c2 : Nat} {a b : List UInt8} (h1 : SlB w (.slice (some ⟨g1, 0, none⟩) n c1) a) (h2 : SlB w (.slice (some ⟨g2, 0, none⟩) n c2) b) :
    SlSl (w.alloc (.cells #[.slice (some ⟨g1, 0, none⟩) n c1, .slice (some ⟨g2, 0, none⟩) n c2] 22)) (.slice (some ⟨w.heap.size, 0, none⟩) 2 2) [a, b] := by
  refine ⟨[_, _], slV_lit w [.slice (some ⟨g1, 0, none⟩) n c1, .slice (some ⟨g2, 0, none⟩) n c2] 2 _ rfl (by decide), rfl, fun k l hk => ?_⟩
  rcases k with _ | _ | k
  · obtain rfl : a = l := by simpa using hk
    exact ⟨_, rfl, h1.alloc _⟩
  · obtain rfl : b = l := by simpa using hk
    exact ⟨_, rfl, h2.alloc _⟩
  · simp at hk
end Go.Proofs.YtbbfjlnkhenbiaaDoor
