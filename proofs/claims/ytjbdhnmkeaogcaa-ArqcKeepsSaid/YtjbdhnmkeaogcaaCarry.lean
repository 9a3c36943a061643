/- What is known of a world, carried on to the next one. -/
import Derived.Test.YtjbdhnmkeaogcaaMacR
import Derived.Test.YtjbdhnmkeaogcaaEqA
set_option linter.unusedVariables false
set_option linter.unusedSimpArgs false
namespace Lk
open Go Go.RowKit
theorem Cip.next {w w1 : World} {q : Value} {kind : Nat} {key : List UInt8} (h : Cip w w.heap.size q kind key) (hL : Below w.heap.size w w1) : Cip w1 w1.heap.size q kind key := (h.below hL (Nat.le_refl _)).more hL.size
theorem Rd.under3 {w w1 : World} {g o : Nat} {l : List UInt8} (h : Rd w g o l) (hL : Below w.heap.size w w1) : Rd w1 g o l := fun k hk => by
  have := h k hk
  rw [hL.cell (block_of_cell this)]; exact this
theorem Blk.rd0 {w : World} {g T : Nat} {l : List UInt8} (h : Blk w g T l) : Rd w g 0 l := fun k hk => by rw [Nat.zero_add]; exact h.cell k hk
theorem Blk.slB {w : World} {g T : Nat} {l : List UInt8} {n : Nat} (h : Blk w g T l) (hl : l.length = n) (hm : n ≤ maxLen) : SlB w (.slice (some ⟨g, 0, none⟩) n n) l :=
  New.slB (base := 0) ⟨g, T, by rw [hl], Nat.zero_le _, h⟩ (by rw [hl]; exact hm)
/-- the first n bytes of an array -/
theorem Blk.slTo {w : World} {g T : Nat} {l : List UInt8} {n m : Nat} (h : Blk w g T l) (hl : l.length = m) (hm : m ≤ 1000000) (hn : n ≤ m) : SlB w (.slice (some ⟨g, 0, none⟩) n m) (l.take n) := by
  have h1 := h.slB hl (by unfold maxLen; omega)
  refine ⟨_, m, by rw [List.length_take, hl, Nat.min_eq_left hn], fun h => (by cases h), by rw [List.length_take, hl]; omega, by unfold maxLen; omega, fun _ => ⟨g, 0, rfl, fun k hk => ?_⟩⟩
  rw [List.length_take] at hk
  rw [Nat.zero_add, h.cell k (by omega)]
  have : g8 (l.take n) k = g8 l k := by simp [g8, List.getElem?_take, show k < n by omega]
  rw [this]
theorem SlB.formc {w : World} {v : Value} {l : List UInt8} {L : Nat} (h : SlB w v l) (hL : l.length = L) : ∃ A c, v = .slice A L c ∧ L ≤ c := by
  obtain ⟨A, c, e, _, h2, _⟩ := h
  exact ⟨A, c, by rw [e, hL], by omega⟩
theorem Own.under {w w1 : World} {base : Nat} {v : Value} {l : List UInt8} (h : Own w base v l) (hL : Below w.heap.size w w1) : Own w1 base v l :=
  h.kept (row := none) (grown_of_below hL none) (by cases h : v.ownBlock with
    | none => exact .inl rfl
    | some k => exact .inr (by simp))
theorem lit_slB (w : World) (l : List UInt8) (n : Nat) (hl : l.length = n) (hn : n ≤ maxLen) : SlB (w.alloc (.cells (Bs l) u8t)) (.slice (some ⟨w.heap.size, 0, none⟩) n n) l :=
  New.slB (base := 0) ⟨w.heap.size, u8t, by rw [hl], Nat.zero_le _, heap_alloc_new w _⟩ (by rw [hl]; exact hn)
/-- the first k bytes turned by 255 -/
def notTo (l : List UInt8) (k : Nat) : List UInt8 := (List.range l.length).map fun i => if i < k then g8 l i ^^^ 255 else g8 l i
theorem notTo_len (l : List UInt8) (k : Nat) : (notTo l k).length = l.length := by simp [notTo]
theorem notTo_zero (l : List UInt8) : notTo l 0 = l := by
  refine same_ext (notTo_len _ _) fun i hi => ?_
  rw [notTo_len] at hi
  simp [notTo, g8, hi]
theorem notTo_at (l : List UInt8) (k i : Nat) (hi : i < l.length) : g8 (notTo l k) i = if i < k then g8 l i ^^^ 255 else g8 l i := by
  simp only [g8, notTo, List.getD_eq_getElem?_getD, List.getElem?_map, List.getElem?_range hi, Option.map_some, Option.getD_some]
theorem notTo_set (l : List UInt8) (k : Nat) (hk : k < l.length) : (notTo l k).set k (g8 l k ^^^ 255) = notTo l (k + 1) := by
  apply List.ext_getElem
  · simp [notTo]
  · intro i h1 h2
    rw [List.getElem_set]
    simp only [notTo, List.getElem_map, List.getElem_range]
    by_cases h : k = i
    · subst h; simp
    · by_cases h' : i < k
      · rw [if_neg h, if_pos h', if_pos (by omega)]
      · rw [if_neg h, if_neg h', if_neg (by omega)]
theorem slB_nil (w : World) : SlB w (.slice none 0 0) [] := ⟨none, 0, rfl, fun _ => rfl, Nat.le_refl _, Nat.zero_le _, fun h => by omega⟩
theorem Drawn.below0 {w w' : World} (h : Drawn w w') : Below w.heap.size w w' := by
  obtain ⟨n, rfl⟩ := h
  exact ⟨rfl, rfl, rfl, Nat.le_refl _, fun _ _ => rfl⟩
theorem below_alloc {w w1 : World} {B : Nat} (h : Below B w w1) (hB : B ≤ w1.heap.size) (o : Obj) : Below B w (w1.alloc o) := below_none h hB (grown_alloc (grown_refl _ _) o)
end Lk
