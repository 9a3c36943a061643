/- Bytes in memory: what blocks and slices hold. -/
import Derived.Test.YtlenlidonlglfaaProg
import Derived.Test.YtlenlidonlglfaaBits
import Derived.Test.YtlenlidonlglfaaQt
import Derived.Below
import Derived.Deep.Draws
import Derived.Deep.AppendLies
import Derived.OwnWalk
import Derived.Laws.BytesArg
import Derived.Laws.MakeOwn
import Derived.Laws.OwnMore
import Derived.Deep.OwnRows
import Derived.Tactics
import Derived.Lib.ConvBytes
import Derived.Laws.Slices
import Derived.WalkKit
import Derived.KernelRfl
import Derived.RowKit3
import Derived.Deep.LoopGhost
import Derived.Deep.QuietTactic
import Derived.BigQuiet
import Derived.BigRegion
import Derived.WideLaws
import Derived.Deep.DeepCutAuto
import Derived.Deep.CutBlock
import Derived.Deep.RegionHeld3
import Derived.Deep.WholeRow
import Derived.Laws.Rows
import Derived.Lib.AppendStr
import Derived.ArgAppend
import Derived.Laws.IdiomCopy
import Derived.OrdersHeld
import Derived.RowKit
import Derived.Lib.Hide
import Derived.WalkSpells
import Derived.StillTailTactics
import Derived.Deep.RegionWith
import Derived.Deep.RegionLaw
import Derived.WalkLawsBesides
set_option linter.unusedVariables false
set_option linter.unusedSimpArgs false
namespace Lk
open Go Go.RowKit
/-- a byte as the model holds it -/
def bv (a : UInt8) : Int := a.toNat
theorem bv_ge (a : UInt8) : 0 ≤ bv a := by unfold bv; omega
theorem bv_lt (a : UInt8) : bv a < 256 := by unfold bv; have := a.toNat_lt; omega
@[go_sem] theorem bv_xor (a b : UInt8) : Go.bits .xor .u8 (bv a) (bv b) = bv (a ^^^ b) := bits_xor_u8 a b
@[go_sem] theorem bv_and (a b : UInt8) : Go.bits .and .u8 (bv a) (bv b) = bv (a &&& b) := bits_and_u8 a b
@[go_sem] theorem bv_or (a b : UInt8) : Go.bits .or .u8 (bv a) (bv b) = bv (a ||| b) := bits_or_u8 a b
@[go_sem] theorem bv_eq (a b : UInt8) : (bv a == bv b) = (a == b) := by
  rw [Bool.eq_iff_iff, beq_iff_eq, beq_iff_eq]; exact u8_eq a b
@[go_sem] theorem bv_ne (a b : UInt8) : (bv a != bv b) = (a != b) := by unfold bne; rw [bv_eq]
@[go_sem] theorem bv_dbl (a : UInt8) : bv a * (2 : Int) % (256 : Int) = bv (a <<< 1) := dbl_u8 a
@[go_sem] theorem bv_half (a : UInt8) : bv a / (2 : Int) = bv (a >>> 1) := half_u8 a
theorem bv_top (a : UInt8) : bv a / (128 : Int) = bv (a >>> 7) := by
  unfold bv
  rw [UInt8.toNat_shiftRight, Nat.shiftRight_eq_div_pow]
  simp
/-- a literal byte -/
theorem bv_lit (n : Nat) (h : n < 256) : (n : Int) = bv (UInt8.ofNat n) := by
  unfold bv
  rw [UInt8.toNat_ofNat', Nat.mod_eq_of_lt h]
/-- the k-th byte -/
def g8 (l : List UInt8) (k : Nat) : UInt8 := l.getD k 0
/-- bytes as cells -/
def Bs (l : List UInt8) : Array Value := (l.map fun x => Value.int .u8 (bv x)).toArray
theorem Bs_size (l : List UInt8) : (Bs l).size = l.length := by simp [Bs]
theorem Bs_get (l : List UInt8) (k : Nat) (h : k < l.length) : (Bs l)[k]? = some (.int .u8 (bv (g8 l k))) := by
  simp [Bs, h, g8]
theorem Bs_set (l : List UInt8) (k : Nat) (x : UInt8) : (Bs l).setIfInBounds k (.int .u8 (bv x)) = Bs (l.set k x) := by
  simp [Bs, List.map_set]
theorem Bs_one (l : List UInt8) : (Bs l).all (·.oneCell') = true := by
  rw [Array.all_eq_true]
  intro i hi
  simp [Bs, Value.oneCell']
/-- the block g holds these bytes, and may be written -/
def Blk (w : World) (g : Nat) (T : TypeId) (l : List UInt8) : Prop := w.heap[g]? = some (.cells (Bs l) T (0, 0))
theorem Blk.lt {w : World} {g T : Nat} {l : List UInt8} (h : Blk w g T l) : g < w.heap.size := (Array.getElem?_eq_some_iff.1 h).1
theorem Blk.cell {w : World} {g T : Nat} {l : List UInt8} (h : Blk w g T l) (k : Nat) (hk : k < l.length) : w.cell? ⟨g, k, none⟩ = some (.int .u8 (bv (g8 l k))) := by
  rw [cell_of_row w g k _ T _ h]; exact Bs_get l k hk
theorem Blk.free {w : World} {g T : Nat} {l : List UInt8} (h : Blk w g T l) (k : Nat) : w.frozen? ⟨g, k, none⟩ = false := frozen_of_row w g k _ T h
theorem Blk.set {w : World} {g T : Nat} {l : List UInt8} (h : Blk w g T l) (k : Nat) (x : UInt8) : Blk (w.setCell ⟨g, k, none⟩ (.int .u8 (bv x))) g T (l.set k x) := by
  unfold Blk
  rw [heap_setCell_same w g k _ T _ h, Bs_set]
theorem Blk.drew {w : World} {g T : Nat} {l : List UInt8} (h : Blk w g T l) : Blk w.drew g T l := h
theorem Blk.drewN {w : World} {g T : Nat} {l : List UInt8} (h : Blk w g T l) (n : Nat) : Blk (w.drewN n) g T l := h
theorem Blk.old {w w1 : World} {g T : Nat} {l : List UInt8} (h : Blk w g T l) {row : Option Nat} (hG : w.grownBy w1 row) (hne : row ≠ some g) : Blk w1 g T l := by
  unfold Blk
  rw [hG.block g h.lt (fun e => hne e.symm)]; exact h
theorem Blk.below {w w1 : World} {g T B : Nat} {l : List UInt8} (h : Blk w g T l) (hG : Below B w w1) (hne : g < B) : Blk w1 g T l := by
  unfold Blk
  rw [hG.block g hne]; exact h
/-- the world is the old one, some orders having been drawn -/
def Drawn (w w' : World) : Prop := ∃ n, w' = w.drewN n
theorem Drawn.refl (w : World) : Drawn w w := ⟨0, rfl⟩
theorem Drawn.one (w : World) : Drawn w w.drew := ⟨1, rfl⟩
theorem Drawn.drew {w w' : World} (h : Drawn w w') : Drawn w w'.drew := by
  obtain ⟨m, rfl⟩ := h
  exact ⟨m + 1, rfl⟩
theorem Drawn.step {w w' : World} (h : Drawn w w') (n : Nat) : Drawn w (w'.drewN n) := by
  obtain ⟨m, rfl⟩ := h
  exact ⟨m + n, World.drewN_drewN ..⟩
/-- the cells from ⟨g, o⟩ on hold these bytes -/
def Rd (w : World) (g o : Nat) (l : List UInt8) : Prop := ∀ k, k < l.length → w.cell? ⟨g, o + k, none⟩ = some (.int .u8 (bv (g8 l k)))
theorem Rd.cell {w : World} {g o : Nat} {l : List UInt8} (h : Rd w g o l) (k : Nat) (hk : k < l.length) : w.cell? ⟨g, o + k, none⟩ = some (.int .u8 (bv (g8 l k))) := h k hk
theorem block_of_cell {w : World} {a : Addr} {v : Value} (h : w.cell? a = some v) : a.block < w.heap.size := World.block_lt_of_cell? w a h
theorem cell_old {w w1 : World} {a : Addr} {v : Value} (h : w.cell? a = some v) {row : Option Nat} (hG : w.grownBy w1 row) (hne : row ≠ some a.block) : w1.cell? a = some v := by
  have hlt := block_of_cell h
  have := hG.block a.block hlt (fun e => hne e.symm)
  simp only [World.cell?] at h ⊢
  rw [this]; exact h
theorem Rd.old {w w1 : World} {g o : Nat} {l : List UInt8} (h : Rd w g o l) {row : Option Nat} (hG : w.grownBy w1 row) (hne : row ≠ some g) : Rd w1 g o l := fun k hk => cell_old (h k hk) hG hne
theorem grown_refl (w : World) (row : Option Nat) : w.grownBy w row := ⟨rfl, rfl, rfl, Nat.le_refl _, fun _ _ _ => rfl⟩
theorem grown_trans {w w1 w2 : World} {row : Option Nat} (h : w.grownBy w1 row) (h' : w1.grownBy w2 row) : w.grownBy w2 row :=
  ⟨h'.os.trans h.os, h'.tape.trans h.tape, h'.output.trans h.output, Nat.le_trans h.size h'.size, fun i hi hr => (h'.block i (Nat.lt_of_lt_of_le hi h.size) hr).trans (h.block i hi hr)⟩
theorem grown_drew {w w1 : World} {row : Option Nat} (h : w.grownBy w1 row) : w.grownBy w1.drew row := ⟨h.os, h.tape, h.output, h.size, h.block⟩
theorem grown_drewN {w w1 : World} {row : Option Nat} (h : w.grownBy w1 row) (n : Nat) : w.grownBy (w1.drewN n) row := ⟨h.os, h.tape, h.output, h.size, h.block⟩
theorem grown_set {w w1 : World} {g : Nat} (h : w.grownBy w1 (some g)) (k : Nat) (v : Value) : w.grownBy (w1.setCell ⟨g, k, none⟩ v) (some g) :=
  ⟨h.os, h.tape, h.output, by rw [World.size_setCell]; exact h.size, fun i hi hr => by
    rw [heap_setCell_other w1 _ i _ (by rintro rfl; exact hr rfl)]; exact h.block i hi hr⟩
theorem grown_alloc {w w1 : World} {row : Option Nat} (h : w.grownBy w1 row) (o : Obj) : w.grownBy (w1.alloc o) row :=
  ⟨h.os, h.tape, h.output, by have := h.size; show w.heap.size ≤ (w1.heap.push o).size; simp; omega, fun i hi hr => by
    rw [heap_alloc_old w1 o (Nat.lt_of_lt_of_le hi h.size)]; exact h.block i hi hr⟩
theorem Blk.alloc {w : World} {g T : Nat} {l : List UInt8} (h : Blk w g T l) (o : Obj) : Blk (w.alloc o) g T l := h.old (grown_alloc (grown_refl w none) o) (by simp)
theorem below_of_grown {w w1 : World} (h : w.grownBy w1 none) : Below w.heap.size w w1 := ⟨h.os, h.tape, h.output, h.size, fun i hi => h.block i hi (by simp)⟩
end Lk
