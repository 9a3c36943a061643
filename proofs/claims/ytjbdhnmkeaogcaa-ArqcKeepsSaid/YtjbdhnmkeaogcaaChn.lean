/- A block of a chained text. -/
import Derived.Test.YtjbdhnmkeaogcaaXor
set_option linter.unusedVariables false
set_option linter.unusedSimpArgs false
namespace Lk
open Go Go.RowKit
/-- one cell of a block, that may be written -/
def One (w : World) (g : Nat) (T : TypeId) (v : Value) : Prop := w.heap[g]? = some (.cells #[v] T (0, 0))
theorem One.lt {w : World} {g T : Nat} {v : Value} (h : One w g T v) : g < w.heap.size := (Array.getElem?_eq_some_iff.1 h).1
theorem One.cell {w : World} {g T : Nat} {v : Value} (h : One w g T v) : w.cell? ⟨g, 0, none⟩ = some v := by
  rw [cell_of_row w g 0 _ T _ h]; rfl
theorem One.free {w : World} {g T : Nat} {v : Value} (h : One w g T v) : w.frozen? ⟨g, 0, none⟩ = false := frozen_of_row w g 0 _ T h
theorem One.set {w : World} {g T : Nat} {v : Value} (h : One w g T v) (u : Value) : One (w.setCell ⟨g, 0, none⟩ u) g T u := by
  unfold One
  rw [heap_setCell_same w g 0 _ T _ h]; rfl
theorem One.below {w w1 : World} {g T B : Nat} {v : Value} (h : One w g T v) (hG : Below B w w1) (hg : g < B) : One w1 g T v := by
  unfold One; rw [hG.block g hg]; exact h
theorem One.under2 {w w1 : World} {g T : Nat} {v : Value} (h : One w g T v) (hG : Below w.heap.size w w1) : One w1 g T v := h.below hG h.lt
theorem One.old {w w1 : World} {g T : Nat} {v : Value} (h : One w g T v) {row : Option Nat} (hG : w.grownBy w1 row) (hne : row ≠ some g) : One w1 g T v := by
  unfold One
  rw [hG.block g h.lt (fun e => hne e.symm)]; exact h
theorem grown_of_below {w w1 : World} (h : Below w.heap.size w w1) (row : Option Nat) : w.grownBy w1 row := ⟨h.os, h.tape, h.output, h.size, fun i hi _ => h.block i hi⟩
theorem psize_le (kind : Nat) : psize kind = 8 ∨ psize kind = 16 := by unfold psize; split <;> simp
theorem Blk.under {w w1 : World} {g T : Nat} {l : List UInt8} (h : Blk w g T l) (hG : Below w.heap.size w w1) : Blk w1 g T l := h.below hG h.lt
theorem NewA.set {w : World} {base g3 : Nat} {v u : Value} {l : List UInt8} (h : NewA w base v l) (hg : g3 < base) : NewA (w.setCell ⟨g3, 0, none⟩ u) base v l := by
  obtain ⟨g, T, h0, h1, h2, h3⟩ := h
  exact ⟨g, T, h0, h1, h2, h3.old (row := some g3) (grown_set (grown_refl _ _) 0 u) (by simp; omega)⟩
end Lk
namespace Go.Proofs.Ytjbdhnmkeaogcaa
open Go.RowKit Lk
set_option maxHeartbeats 1600000 in
set_option maxRecDepth 100000 in
theorem chain1 (q vb vl : Value) (B kind g1 g2 g3 : Nat) (key b last : List UInt8) (w : World) (hk : kind = 1 ∨ kind = 2) (h : Cip w B q kind key) (hB : B ≤ w.heap.size) (hf : pfits kind key.length = true) (hs : SlB w vb b) (hb : b.length = psize kind)
    (hv : SlB w vl last) (hl : last.length = psize kind) (h1 : One w g1 4 (.bool false)) (h2 : One w g2 25 q) (h3 : One w g3 22 vl) :
    Calls Try.prog 70 #[vb, .pointer (some ⟨g1, 0, none⟩), .pointer (some ⟨g2, 0, none⟩), .pointer (some ⟨g3, 0, none⟩)] w fun e w' =>
      ∃ v, e = .returned (.tuple #[v, .nilIface]) ∧ NewA w' w.heap.size v (pdo kind key (pxor b last) false) ∧ One w' g3 22 v ∧ w.grownBy w' (some g3) := by
  have hps := psize_le kind
  have HX := Lib.hid (Xor_any vb vl b last w hs hv (by omega) (by omega) (by omega))
  have hxl : (pxor b last).length = psize kind := by rw [pxor_len, hb]
  have HD := Lib.hid (show ∀ (w1 : World) (v1 : Value), Below w.heap.size w w1 → SlB w1 v1 (pxor b last) → _ from fun w1 v1 hL hS => Do_any q v1 B kind key (pxor b last) false w1 hk (h.below hL hB) (Nat.le_trans hB hL.size) hf hS hxl)
  have hq : ∃ gq, q = .pointer (some ⟨gq, 0, none⟩) := by obtain ⟨gq, _, _, e, _⟩ := h; exact ⟨gq, e⟩
  obtain ⟨gq, rfl⟩ := hq
  have hvl : ∃ A m c, vl = .slice A m c := by obtain ⟨A, c, e, _⟩ := hv; exact ⟨A, _, c, e⟩
  obtain ⟨Al, ml, cl, rfl⟩ := hvl
  have hvb : ∃ A m c, vb = .slice A m c := by obtain ⟨A, c, e, _⟩ := hs; exact ⟨A, _, c, e⟩
  obtain ⟨Ab, mb, cb, rfl⟩ := hvb
  have c1 := h1.cell
  have c2 := h2.cell
  have c3 := h3.cell
  have H2 := Lib.hid h2
  have H3 := Lib.hid h3
  have HXL := Lib.hid (show (pxor b last).length ≤ maxLen by rw [hxl]; rcases hps with e | e <;> rw [e] <;> decide)
  clear h1 h2 h3 h hs hv hf hb hl hps hxl
  go_enter Try.func70, Try.ntmps70
  go_wp2_with (first
    | (go_at_call 71; refine HX.out.mono ?_; rintro e w1 ⟨v1, rfl, hN1, hL1⟩; have c21 := cell_below c2 hL1 H2.out.lt)
    | (go_at_call 13; refine (HD.out w1 v1 hL1 (hN1.slB HXL.out)).mono ?_; rintro e w2 ⟨v2, rfl, hN2, hL2⟩; have HN2 := Lib.hid hN2; obtain ⟨x2, T2, _, rfl, _, _⟩ := hN2; have h32 := (H3.out.below hL1 H3.out.lt).under2 hL2; have c32 := h32.cell; have f32 := h32.free))
  go_ret2
  have g3l := H3.out.lt
  have l1 := hL1.size
  obtain ⟨x, T, hT, e, hx, hBx⟩ := HN2.out.set (u := .slice (some ⟨x2, 0, none⟩) (pdo kind key (pxor b last) false).length (pdo kind key (pxor b last) false).length) (Nat.lt_of_lt_of_le g3l l1)
  refine ⟨_, rfl, ⟨x, T, hT, e, Nat.le_trans l1 hx, hBx⟩, h32.set _, ?_⟩
  exact grown_set (grown_trans (grown_of_below hL1 _) (grown_of_below hL2 _)) _ _
end Go.Proofs.Ytjbdhnmkeaogcaa
