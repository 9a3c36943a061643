/- Slices of bytes: that are read, and that the call itself made. -/
import Derived.Test.YtlenlidonlglfaaOps
import Derived.Laws.AppendOwnNone
set_option linter.unusedVariables false
set_option linter.unusedSimpArgs false
namespace Lk
open Go Go.RowKit
/-- the number of the type byte in this program -/
def u8t : Nat := 5
def Bl (l : List UInt8) : List Value := l.map fun x => Value.int .u8 (bv x)
theorem Bl_len (l : List UInt8) : (Bl l).length = l.length := by simp [Bl]
theorem Bl_app (l m : List UInt8) : Bl (l ++ m) = Bl l ++ Bl m := by simp [Bl]
theorem Bl_get (l : List UInt8) (j : Nat) (u : Value) (h : (Bl l)[j]? = some u) : j < l.length ∧ u = .int .u8 (bv (g8 l j)) := by
  simp only [Bl, List.getElem?_map, Option.map_eq_some_iff] at h
  obtain ⟨x, hx, rfl⟩ := h
  obtain ⟨hj, rfl⟩ := List.getElem?_eq_some_iff.1 hx
  exact ⟨hj, by simp [g8, hj]⟩
theorem Bl_get' (l : List UInt8) (j : Nat) (h : j < l.length) : (Bl l)[j]? = some (.int .u8 (bv (g8 l j))) := by
  simp [Bl, g8, h]
theorem Bl_one (l : List UInt8) : ∀ u ∈ Bl l, u.oneCell' = true := by
  intro u hu
  simp only [Bl, List.mem_map] at hu
  obtain ⟨x, _, rfl⟩ := hu
  rfl
/-- the value is a slice that reads as these bytes -/
def SlB (w : World) (v : Value) (l : List UInt8) : Prop :=
  ∃ A c, v = .slice A l.length c ∧ (A = none → c = 0) ∧ l.length ≤ c ∧ c ≤ maxLen ∧ (0 < c → ∃ g o, A = some ⟨g, o, none⟩ ∧ Rd w g o l)
/-- the value is a slice of the call's own (in blocks from base on) that holds these bytes -/
def Own (w : World) (base : Nat) (v : Value) (l : List UInt8) : Prop := w.ownsRow base u8t 1 v l.length (Bl l)
theorem Own.slB {w : World} {base : Nat} {v : Value} {l : List UInt8} (h : Own w base v l) : SlB w v l := by
  rcases h.2 with ⟨rfl, h0⟩ | ⟨g, cap, cur, rfl, hb, hg, h1, h2, h3, h4⟩
  · have : l = [] := List.eq_nil_of_length_eq_zero h0
    subst this
    exact ⟨none, 0, rfl, fun _ => rfl, Nat.le_refl _, Nat.zero_le _, fun h => by omega⟩
  · refine ⟨_, cap, rfl, fun h => (by cases h), h1, h2, fun _ => ⟨g, 0, rfl, fun k hk => ?_⟩⟩
    rw [Nat.zero_add]
    have := World.ownsRow.cellAt (h := h) k (by omega)
    rw [this]
    exact Bl_get' l k hk
theorem Own.lt {w : World} {base : Nat} {v : Value} {l : List UInt8} (h : Own w base v l) : ∀ k, v.ownBlock = some k → base ≤ k ∧ k < w.heap.size := World.ownsRow.lt h
theorem Own.kept {w w' : World} {base : Nat} {v : Value} {l : List UInt8} {row : Option Nat} (h : Own w base v l) (hg : w.grownBy w' row) (hne : v.ownBlock = none ∨ v.ownBlock ≠ row) : Own w' base v l := World.ownsRow.kept h hg hne
theorem Own.alloc {w : World} {base : Nat} {v : Value} {l : List UInt8} (h : Own w base v l) (o : Obj) : Own (w.alloc o) base v l := World.ownsRow.alloc h o
theorem Own.drew {w : World} {base : Nat} {v : Value} {l : List UInt8} (h : Own w base v l) : Own w.drew base v l := h
theorem Own.drewN {w : World} {base : Nat} {v : Value} {l : List UInt8} (h : Own w base v l) (n : Nat) : Own (w.drewN n) base v l := h
theorem Own.lower {w : World} {base base' : Nat} {v : Value} {l : List UInt8} (h : Own w base v l) (hb : base' ≤ base) : Own w base' v l :=
  ⟨h.1, h.2.imp id fun ⟨g, cap, cur, e, hg, r⟩ => ⟨g, cap, cur, e, Nat.le_trans hb hg, r⟩⟩
theorem Own.raise {w : World} {base base' : Nat} {v : Value} {l : List UInt8} (h : Own w base v l) (hb : ∀ k, v.ownBlock = some k → base' ≤ k) : Own w base' v l :=
  ⟨h.1, h.2.imp id fun ⟨g, cap, cur, e, hg, r⟩ => ⟨g, cap, cur, e, hb g (by rw [e]; rfl), r⟩⟩
/-- what is owned and not empty -/
theorem Own.form {w : World} {base : Nat} {v : Value} {l : List UInt8} (h : Own w base v l) (hl : 0 < l.length) : ∃ g cap, v = .slice (some ⟨g, 0, none⟩) l.length cap ∧ base ≤ g ∧ g < w.heap.size ∧ Rd w g 0 l ∧ (∀ k, w.frozen? ⟨g, k, none⟩ = false) ∧ l.length ≤ cap := by
  obtain ⟨g, cap, hv, hb, hg⟩ := World.ownsRow.form h hl
  subst hv
  refine ⟨g, cap, rfl, hb, hg, fun k hk => ?_, fun k => World.ownsRow.frozenAt (h := h) k, ?_⟩
  · rw [Nat.zero_add]
    have := World.ownsRow.cellAt (h := h) k (by omega)
    rw [this]
    exact Bl_get' l k hk
  · rcases h.2 with ⟨h0, _⟩ | ⟨g', cap', cur, e, _, _, h1, _⟩
    · cases h0
    · cases e; exact h1
theorem Own.stored {w : World} {base g cap : Nat} {l : List UInt8} (h : Own w base (.slice (some ⟨g, 0, none⟩) l.length cap) l) (k : Nat) (x : UInt8) : Own (w.setCell ⟨g, k, none⟩ (.int .u8 (bv x))) base (.slice (some ⟨g, 0, none⟩) l.length cap) (l.set k x) := by
  have := World.ownsRow.stored (h := h) k (.int .u8 (bv x))
  unfold Own
  rw [List.length_set]
  rw [show Bl (l.set k x) = (Bl l).set k (.int .u8 (bv x)) by simp [Bl, List.map_set]]
  exact this.1
theorem Own.ne_blk {w : World} {base g T : Nat} {v : Value} {l m : List UInt8} (h : Own w base v l) (hB : Blk w g T m) (hT : T ≠ u8t) : v.ownBlock ≠ some g := by
  intro e
  rcases h.2 with ⟨rfl, _⟩ | ⟨g', cap, cur, rfl, hb, hg, _⟩
  · simp [Value.ownBlock] at e
  · have : g' = g := by simpa [Value.ownBlock] using e
    subst this
    unfold Blk at hB
    rw [hg] at hB
    injection hB with hB
    injection hB with _ ht
    exact hT ht.symm
theorem SlB.old {w w1 : World} {v : Value} {l : List UInt8} (h : SlB w v l) {row : Option Nat} (hG : w.grownBy w1 row) (hne : v.ownBlock = none ∨ v.ownBlock ≠ row) : SlB w1 v l := by
  obtain ⟨A, c, rfl, h1, h2, h3, h4⟩ := h
  refine ⟨A, c, rfl, h1, h2, h3, fun hc => ?_⟩
  obtain ⟨g, o, rfl, hr⟩ := h4 hc
  exact ⟨g, o, rfl, hr.old hG (by
    rcases hne with h | h
    · simp [Value.ownBlock] at h
    · exact fun e => h (by rw [e]; rfl))⟩
theorem SlB.alloc {w : World} {v : Value} {l : List UInt8} (h : SlB w v l) (o : Obj) : SlB (w.alloc o) v l := h.old (grown_alloc (grown_refl _ none) o) (Classical.em _)
theorem own_nil (w : World) (base : Nat) : Own w base (.slice none 0 0) [] := ⟨rfl, .inl ⟨rfl, rfl⟩⟩
/-- writes to one block that is new leave the old ones -/
theorem below_new {w w1 w2 : World} {B g : Nat} (h : Below B w w1) (hB : B ≤ w1.heap.size) (hG : w1.grownBy w2 (some g)) (hg : B ≤ g) : Below B w w2 :=
  ⟨hG.os.trans h.os, hG.tape.trans h.tape, hG.output.trans h.output, Nat.le_trans h.size hG.size, fun i hi => by
    rw [hG.block i (by omega) (by simp; omega)]; exact h.block i hi⟩
theorem below_none {w w1 w2 : World} {B : Nat} (h : Below B w w1) (hB : B ≤ w1.heap.size) (hG : w1.grownBy w2 none) : Below B w w2 :=
  ⟨hG.os.trans h.os, hG.tape.trans h.tape, hG.output.trans h.output, Nat.le_trans h.size hG.size, fun i hi => by
    rw [hG.block i (by omega) (by simp)]; exact h.block i hi⟩
theorem below_more {w w1 w2 : World} {B B' : Nat} (h : Below B w w1) (h' : Below B' w1 w2) (hB : B ≤ B') : Below B w w2 :=
  ⟨h'.os.trans h.os, h'.tape.trans h.tape, h'.output.trans h.output, Nat.le_trans h.size h'.size, fun i hi => by
    rw [h'.block i (by omega)]; exact h.block i hi⟩
theorem SlB.drewN {w : World} {v : Value} {l : List UInt8} (h : SlB w v l) (n : Nat) : SlB (w.drewN n) v l := h
theorem SlB.lt {w : World} {v : Value} {l : List UInt8} (h : SlB w v l) (hl : 0 < l.length) : ∀ k, v.ownBlock = some k → k < w.heap.size := by
  obtain ⟨A, c, rfl, h1, h2, h3, h4⟩ := h
  intro k hk
  obtain ⟨g, o, rfl, hr⟩ := h4 (by omega)
  have : g = k := by simpa [Value.ownBlock] using hk
  subst this
  exact block_of_cell (hr 0 hl)
/-- a slice that is read stays so where old memory stays -/
theorem SlB.below {w w1 : World} {v : Value} {l : List UInt8} (h : SlB w v l) (hG : Below w.heap.size w w1) : SlB w1 v l := by
  obtain ⟨A, c, rfl, h1, h2, h3, h4⟩ := h
  refine ⟨A, c, rfl, h1, h2, h3, fun hc => ?_⟩
  obtain ⟨g, o, rfl, hr⟩ := h4 hc
  refine ⟨g, o, rfl, fun k hk => ?_⟩
  have := hr k hk
  rw [hG.cell (block_of_cell this)]
  exact this
theorem own_lit0 (w : World) (base : Nat) (hb : base ≤ w.heap.size) : Own (w.alloc (.cells #[] u8t)) base (.slice (some ⟨w.heap.size, 0, none⟩) 0 0) [] :=
  ⟨rfl, .inr ⟨w.heap.size, 0, #[], rfl, hb, heap_alloc_new w _, Nat.le_refl _, Nat.zero_le _, rfl, rfl⟩⟩
section
variable {P : Program} {ops : Array Oper} {rest : List Oper} {o : Oper} {a : Act} {w : World} {Q : Exit → Act → World → Prop}
theorem rangeAt_rd {g o : Nat} {l : List UInt8} (h : Rd w g o l) : w.rangeAt g o (Bl l) := by
  intro j v hj
  obtain ⟨hjl, rfl⟩ := Bl_get l j v hj
  exact h j hjl
/-- a whole array read out of a row's midst -/
theorem load_rd (hgd : o.guard = none) (ty : TypeId) (x : Operand) (ho : o.op = .load ty x) (g k n e : Nat) (l : List UInt8) (hx : a.eval x = .pointer (some ⟨g, k, none⟩)) (hB : Rd w g k l) (hl : l.length = n)
    (hu : P.underlying ty = some (.array n e)) (hi : (P.info? ty).map (·.size) = some n)
    (h : wpList P ops Q rest (a.put o.dst (.agg (Bs l))) w) : wpList P ops Q (o :: rest) a w :=
  wpList_load_mid hgd ty x ho g k hx (Bl l) (.array n e) (rangeAt_rd hB) hu rfl (by rw [Bl_len, hl, hi]) h
/-- a slice as an array, long enough -/
theorem to_array (hgd : o.guard = none) (ty : TypeId) (x : Operand) (ho : o.op = .sliceToArrayPointer ty x) (A : Option Addr) (n m c e : Nat) (hx : a.eval x = .slice A m c) (hm : n ≤ m)
    (hu : P.underlying ty = some (.array n e))
    (h : wpList P ops Q rest (a.put o.dst (.pointer A)) w) : wpList P ops Q (o :: rest) a w :=
  wpList_plain hgd fun _ hK => by
    unfold Oper.wp execOp
    simp only [ho, hx, Sem.run_bind]
    have : (Instr.arrayAt ty (.slice A m c)).run P w = .ok (.pointer A) w := by
      simp [Instr.arrayAt, run_underlying hu, Nat.not_lt.2 hm]
    rw [this]
    exact hK _ _ h
end
end Lk
namespace Go.Proofs.Ytlenlidonlglfaa
open Lk
theorem hu_u8 : (Try.prog.info? u8t).map (fun i => (i.zero, i.size, i.bytes)) = some (some (.int .u8 0), 1, 1) := by kernel_rfl
end Go.Proofs.Ytlenlidonlglfaa
