/- Strings appended to bytes; literal slices; operations of drawn regions told by their runs. -/
import Derived.Test.YtbbfjlnkhenbiaaDoorKB6
import Derived.Test.YtbbfjlnkhenbiaaDoorKB4
import Derived.Test.YtbbfjlnkhenbiaaDoorKB1
import Derived.Test.YtbbfjlnkhenbiaaDoorKB5
import Derived.Test.YtbbfjlnkhenbiaaDoorKM0
import Derived.Laws.ResultCell
import Derived.Deep.QuietTactic
import Derived.BigQuiet
import Derived.Test.YtbbfjlnkhenbiaaDoorKB7
import Derived.LoopN
set_option linter.unusedVariables false
set_option linter.unusedSimpArgs false
namespace Lk
open Go Go.RowKit
theorem own_lit (w : World) (base : Nat) (l : List UInt8) (hb : base ≤ w.heap.size) (hl : l.length ≤ 1000) : Own (w.alloc (.cells (Bs l) u8t)) base (.slice (some ⟨w.heap.size, 0, none⟩) l.length l.length) l :=
  ⟨by rw [Bl_len, Nat.mul_one], .inr ⟨w.heap.size, l.length, Bs l, rfl, hb, heap_alloc_new w _, Nat.le_refl _, by unfold maxLen; omega, by rw [Bs_size, Nat.mul_one], by
    rw [Nat.mul_one]
    unfold Bl Bs
    exact List.take_of_length_le (by simp)⟩⟩
/-- the bytes of a string -/
def sb (s : ByteArray) : List UInt8 := s.data.toList
theorem sb_len (s : ByteArray) : (sb s).length = s.size := by unfold sb; rw [Array.length_toList]; rfl
theorem strCells_sb (s : ByteArray) : Lib.strCells s = Bl (sb s) := rfl
def strt : Nat := 9
section
variable {P : Program} {ops : Array Oper} {rest : List Oper} {o : Oper} {a : Act} {w : World} {Q : Exit → Act → World → Prop} {K : Act → World → Prop} {i : Nat}
theorem wpOp_run (hi : ops[i]? = some o) (hw : Region.wanted o (yielded ops a.tmps) = true) (v : Value) (w1 : World) (h : (execOp a.eval o).run P w = .ok (.value v) w1) (hk : K (a.put o.dst v) w1) : wpOp P ops Q i K a w := by
  unfold Go.wpOp
  simp only [hi, hw, if_true]
  refine .inl ?_
  unfold Oper.wp
  rw [h]
  exact hk
theorem wpOp_append (hi : ops[i]? = some o) (hw : Region.wanted o (yielded ops a.tmps) = true) (hu : P.underlying slt = some (.slice u8t)) (hinfo : (P.info? u8t).map (fun i => (i.zero, i.size, i.bytes)) = some (some (.int .u8 0), 1, 1)) (s x : Operand)
    (ho : o.op = .call { callee := .builtin .append, args := #[s, x], argTypes := #[slt, slt] }) (base : Nat) (v : Value) (l : List UInt8) (hs : a.eval s = v) (hown : Own w base v l)
    (ad : Addr) (k c : Nat) (m : List UInt8) (hx : a.eval x = .slice (some ad) k c) (hm : SlB w (.slice (some ad) k c) m) (hlen : l.length + m.length ≤ 140737488355328) (hbase : base ≤ w.heap.size)
    (h : ∀ v' w', Own w' base v' (l ++ m) → w.grownBy w' v.ownBlock → K (a.put o.dst v') w') : wpOp P ops Q i K a w := by
  unfold Go.wpOp
  simp only [hi, hw, if_true]
  refine .inl ?_
  obtain ⟨ti, hti, hz, h1, h2⟩ := info_parts hinfo
  obtain ⟨A, c', e, n1, n2, n3, n4⟩ := hm
  cases e
  have hnews : ∀ j u, (Bl m)[j]? = some u → w.cell? (ad.add j) = some u := by
    intro j u hj
    obtain ⟨hjl, rfl⟩ := Bl_get m j u hj
    obtain ⟨g, o', e, hr⟩ := n4 (by omega)
    cases e
    have : (⟨g, o', none⟩ : Addr).add j = ⟨g, o' + j, none⟩ := by unfold Addr.add; split <;> simp_all
    rw [this]
    exact hr j hjl
  refine wp_append_own w s x slt ho base u8t ti (.int .u8 0) 1 1 hu hti hz h1 h2 rfl (by decide) v l.length (Bl l) hs hown ad m.length c (Bl m) hx (by rw [Bl_len, Nat.mul_one]) hnews (Bl_one m) (by unfold maxLen; omega) (by omega) hbase ?_
  intro v' w' h3 h4 _
  refine h v' w' ?_ h4
  unfold Own
  rw [List.length_append, Bl_app]
  exact h3
theorem append_s (hu : P.underlying slt = some (.slice u8t)) (hstr : P.underlying strt = some .string) (hinfo : (P.info? u8t).map (fun i => (i.zero, i.size, i.bytes)) = some (some (.int .u8 0), 1, 1)) (hgd : o.guard = none) (s x : Operand)
    (ho : o.op = .call { callee := .builtin .append, args := #[s, x], argTypes := #[slt, strt] }) (base : Nat) (v : Value) (l : List UInt8) (hs : a.eval s = v) (hown : Own w base v l)
    (t : ByteArray) (hx : a.eval x = .string t) (hlen : l.length + t.size ≤ 140737488355328) (hbase : base ≤ w.heap.size)
    (h : ∀ v' w', Own w' base v' (l ++ sb t) → w.grownBy w' v.ownBlock → wpList P ops Q rest (a.put o.dst v') w') : wpList P ops Q (o :: rest) a w := by
  obtain ⟨ti, hti, hz, h1, h2⟩ := info_parts hinfo
  refine Lib.wpList_append_own_string w hgd s x slt strt ho base u8t ti hu hstr hti hz h1 h2 v l.length (Bl l) hs hown t hx (by unfold maxLen; omega) hlen hbase ?_
  intro v' w' h3 h4 _
  refine h v' w' ?_ h4
  unfold Own
  rw [List.length_append, Bl_app, sb_len, ← strCells_sb]
  exact h3
theorem wpOp_append_s (hi : ops[i]? = some o) (hw : Region.wanted o (yielded ops a.tmps) = true) (hu : P.underlying slt = some (.slice u8t)) (hstr : P.underlying strt = some .string) (hinfo : (P.info? u8t).map (fun i => (i.zero, i.size, i.bytes)) = some (some (.int .u8 0), 1, 1)) (s x : Operand)
    (ho : o.op = .call { callee := .builtin .append, args := #[s, x], argTypes := #[slt, strt] }) (base : Nat) (v : Value) (l : List UInt8) (hs : a.eval s = v) (hown : Own w base v l)
    (t : ByteArray) (hx : a.eval x = .string t) (hlen : l.length + t.size ≤ 140737488355328) (hbase : base ≤ w.heap.size)
    (h : ∀ v' w', Own w' base v' (l ++ sb t) → w.grownBy w' v.ownBlock → K (a.put o.dst v') w') : wpOp P ops Q i K a w := by
  unfold Go.wpOp
  simp only [hi, hw, if_true]
  refine .inl ?_
  obtain ⟨ti, hti, hz, h1, h2⟩ := info_parts hinfo
  obtain ⟨v', w', hr, h3, h4, h5⟩ := Lib.run_append_own_string (P := P) w base slt strt o.type u8t ti hu hstr hti hz h1 h2 v l.length (Bl l) hown t (by unfold maxLen; omega) hlen hbase
  unfold Oper.wp execOp
  simp only [ho, resolve, invoke, builtin, Sem.run_bind, Sem.run_pure, Result.andThen_ok, List.map_toArray, List.map_cons, List.map_nil, hs, hx, hr]
  refine h v' w' ?_ h4
  unfold Own
  rw [List.length_append, Bl_app, sb_len, ← strCells_sb]
  exact h3
end
end Lk
namespace Go.Proofs.YtbbfjlnkhenbiaaDoor
open Lk
theorem hu_str : Tryd.prog.underlying strt = some .string := by kernel_rfl
end Go.Proofs.YtbbfjlnkhenbiaaDoor
set_option linter.unusedVariables false
set_option linter.unusedSimpArgs false
namespace Lk
open Go Go.RowKit
/-- cells put over others, from o on -/
def putV : List Value → Nat → List Value → List Value
  | L, _, [] => L
  | L, o, x :: r => putV (L.set o x) (o + 1) r
theorem putV_len (l : List Value) : ∀ (L : List Value) (o : Nat), (putV L o l).length = L.length := by
  induction l with
  | nil => intro L o; rfl
  | cons x r ih => intro L o; show (putV (L.set o x) (o + 1) r).length = _; rw [ih, List.length_set]
theorem putV_eq (l : List Value) : ∀ (L : List Value) (o : Nat), o + l.length ≤ L.length → putV L o l = L.take o ++ l ++ L.drop (o + l.length) := by
  induction l with
  | nil => intro L o h; show L = _; simp
  | cons x r ih =>
    intro L o h
    simp only [List.length_cons] at h
    show putV (L.set o x) (o + 1) r = _
    rw [ih _ _ (by rw [List.length_set]; omega)]
    rw [List.drop_set_of_lt (by omega)]
    rw [List.take_set, List.take_succ_eq_append_getElem (by omega), List.set_append_right _ _ (by simp; omega)]
    simp only [List.length_take, List.length_cons]
    have : min o L.length = o := by omega
    rw [this]
    simp [Nat.add_assoc, Nat.add_comm 1]
theorem putV_mid (A B C D : List Value) (k : Nat) (hk : k = A.length) (h : D.length = B.length) : putV (A ++ (B ++ C)) k D = A ++ (D ++ C) := by
  subst hk
  rw [putV_eq _ _ _ (by simp; omega), List.take_left, h, show A ++ (B ++ C) = (A ++ B) ++ C by simp, show A.length + B.length = (A ++ B).length by simp, List.drop_left]
  simp
theorem set_mid (A C : List Value) (b d : Value) (k : Nat) (hk : k = A.length) : (A ++ b :: C).set k d = A ++ d :: C := by
  subst hk
  rw [List.set_append_right _ _ (Nat.le_refl _), Nat.sub_self]; rfl
/-- the block holds these cells, and may be written -/
def VB (w : World) (g : Nat) (T : TypeId) (cs : List Value) : Prop := w.heap[g]? = some (.cells cs.toArray T (0, 0))
theorem VB.lt {w : World} {g T : Nat} {cs : List Value} (h : VB w g T cs) : g < w.heap.size := (Array.getElem?_eq_some_iff.1 h).1
theorem VB.cell {w : World} {g T : Nat} {cs : List Value} (h : VB w g T cs) (k : Nat) (x : Value) (hk : cs[k]? = some x) : w.cell? ⟨g, k, none⟩ = some x := by
  rw [cell_of_row w g k _ T _ h]; simpa using hk
theorem VB.free {w : World} {g T : Nat} {cs : List Value} (h : VB w g T cs) (k : Nat) : w.frozen? ⟨g, k, none⟩ = false := frozen_of_row w g k _ T h
theorem VB.set {w : World} {g T : Nat} {cs : List Value} (h : VB w g T cs) (k : Nat) (x : Value) : VB (w.setCell ⟨g, k, none⟩ x) g T (cs.set k x) := by
  unfold VB
  rw [heap_setCell_same w g k _ T _ h]; simp
theorem VB.old {w w1 : World} {g T : Nat} {cs : List Value} (h : VB w g T cs) {row : Option Nat} (hG : w.grownBy w1 row) (hne : row ≠ some g) : VB w1 g T cs := by
  unfold VB
  rw [hG.block g h.lt (fun e => hne e.symm)]; exact h
theorem VB.below {w w1 : World} {g T B : Nat} {cs : List Value} (h : VB w g T cs) (hG : Below B w w1) (hne : g < B) : VB w1 g T cs := by
  unfold VB
  rw [hG.block g hne]; exact h
theorem VB.next {w w1 : World} {g T : Nat} {cs : List Value} (h : VB w g T cs) (hG : Below w.heap.size w w1) : VB w1 g T cs := h.below hG h.lt
theorem VB.drewN {w : World} {g T : Nat} {cs : List Value} (h : VB w g T cs) (n : Nat) : VB (w.drewN n) g T cs := h
theorem VB.alloc {w : World} {g T : Nat} {cs : List Value} (h : VB w g T cs) (o : Obj) : VB (w.alloc o) g T cs := h.old (grown_alloc (grown_refl w none) o) (by simp)
theorem VB.setCells {g T : Nat} : ∀ (l : List Value) (w : World) (L : List Value) (o : Nat), VB w g T L → VB (w.setCells g o l) g T (putV L o l)
  | [], w, L, o, h => h
  | x :: r, w, L, o, h => VB.setCells r _ _ _ (h.set o x)
theorem VB.range {w : World} {g T : Nat} {cs : List Value} (h : VB w g T cs) (o n : Nat) : w.rangeAt g o ((cs.drop o).take n) := by
  intro j v hj
  refine h.cell (o + j) v ?_
  rw [List.getElem?_take] at hj
  split at hj
  · rw [List.getElem?_drop] at hj; exact hj
  · cases hj
theorem VB.there {w : World} {g T : Nat} {cs : List Value} (h : VB w g T cs) (h1 : ∀ u ∈ cs, u.oneCell' = true) (o n : Nat) (hn : o + n ≤ cs.length) : w.there g o n := fun j hj => by
  refine ⟨?_, h.free _⟩
  rw [h.cell (o + j) (cs[o + j]'(by omega)) (List.getElem?_eq_getElem (by omega))]; rfl
theorem VB.row {w : World} {g T n : Nat} {cs : List Value} (h : VB w g T cs) (hl : cs.length = n) : Row w g T n := ⟨_, h, by simpa using hl⟩
/-- bytes among the cells -/
theorem VB.rd {w : World} {g T : Nat} {cs A C : List Value} {l : List UInt8} (h : VB w g T cs) (e : cs = A ++ (Bl l ++ C)) (k : Nat) (hk : k = A.length) : Rd w g k l := fun j hj => by
  subst hk
  refine h.cell _ _ ?_
  rw [e, List.getElem?_append_right (by omega), Nat.add_sub_cancel_left, List.getElem?_append_left (by rw [Bl_len]; exact hj)]
  exact Bl_get' l j hj
section
variable {P : Program} {ops : Array Oper} {rest : List Oper} {o : Oper} {a : Act} {w : World} {Q : Exit → Act → World → Prop}
theorem box_vb (hgd : o.guard = none) (ty : TypeId) (x : Operand) (ho : o.op = .box ty x) (cs : List Value) (hx : a.eval x = .agg cs.toArray)
    (h : ∀ w1, VB w1 w.heap.size ty cs → w.grownBy w1 none → w1.heap.size = w.heap.size + 1 → wpList P ops Q rest (a.put o.dst (.pointer (some ⟨w.heap.size, 0, none⟩))) w1) : wpList P ops Q (o :: rest) a w :=
  wpList_plain hgd fun _ hK => by
    unfold Oper.wp execOp
    simp only [ho, Sem.run_bind, hx, run_box ty _ w, Result.andThen_ok]
    exact hK _ _ (h _ (heap_alloc_new w _) (grown_alloc (grown_refl w none) _) (by show (w.heap.push _).size = _; simp))
theorem alloc_vb (hgd : o.guard = none) (ty : TypeId) (ho : o.op = .alloc ty) (z : Value) (cs : List Value) (hz : ∀ w : World, (zeroValue ty).run P w = .ok z w) (hn : z.cells = cs.toArray)
    (h : ∀ w1, VB w1 w.heap.size ty cs → w.grownBy w1 none → w1.heap.size = w.heap.size + 1 → wpList P ops Q rest (a.put o.dst (.pointer (some ⟨w.heap.size, 0, none⟩))) w1) : wpList P ops Q (o :: rest) a w :=
  wpList_plain hgd fun _ hK => by
    unfold Oper.wp execOp
    simp only [ho, Sem.run_bind, run_alloc ty z w hz, Result.andThen_ok, hn]
    exact hK _ _ (h _ (heap_alloc_new w _) (grown_alloc (grown_refl w none) _) (by show (w.heap.push _).size = _; simp))
theorem store_vb (hgd : o.guard = none) (ty : TypeId) (x y : Operand) (ho : o.op = .store ty x y) (g k T m : Nat) (L l : List Value) (hx : a.eval x = .pointer (some ⟨g, k, none⟩)) (hy : a.eval y = .agg l.toArray) (hB : VB w g T L) (h1 : ∀ u ∈ L, u.oneCell' = true) (h2 : ∀ u ∈ l, u.oneCell' = true) (hm : l.length = m) (hl : k + m ≤ L.length)
    (hi : (P.info? ty).map (·.size) = some m)
    (h : ∀ w1, VB w1 g T (putV L k l) → w.grownBy w1 (some g) → w1.heap.size = w.heap.size → wpList P ops Q rest (a.put o.dst undef) w1) : wpList P ops Q (o :: rest) a w := by
  subst hm
  refine wpList_store_mid hgd ty x y ho g k l.toArray hx hy (by simpa using hB.there h1 k _ hl) (by simpa using hi) (all_oneCell_toArray h2) ?_
  exact h _ (VB.setCells l w L k hB) (grown_setCells _ _ _ _ (grown_refl _ _)) (size_setCells _ _ _)
theorem store_vb1 (hgd : o.guard = none) (ty : TypeId) (x y : Operand) (ho : o.op = .store ty x y) (g k T : Nat) (L : List Value) (v : Value) (hx : a.eval x = .pointer (some ⟨g, k, none⟩)) (hy : a.eval y = v) (hv : v.oneCell' = true) (hB : VB w g T L) (u : Value) (hk : L[k]? = some u)
    (hi : (P.info? ty).map (·.size) = some 1)
    (h : ∀ w1, VB w1 g T (L.set k v) → w.grownBy w1 (some g) → w1.heap.size = w.heap.size → wpList P ops Q rest (a.put o.dst undef) w1) : wpList P ops Q (o :: rest) a w :=
  wpList_plain hgd fun _ hK => by
    unfold Oper.wp execOp
    simp only [ho, hx, hy, Instr.storeAt, Instr.sureAddr, Sem.run_bind, Sem.run_pure, Result.andThen_ok, run_storeVar_one w g k ty _ v (hB.cell k u hk) (hB.free k) hv hi]
    exact hK _ _ (h _ (hB.set k v) (grown_set (grown_refl _ _) _ _) (World.size_setCell ..))
/-- an aggregate read out of a block, in its midst or whole -/
theorem load_vb (hgd : o.guard = none) (ty : TypeId) (x : Operand) (ho : o.op = .load ty x) (g k : Nat) (T m : Nat) (d : TypeDesc) (L l : List Value) (hx : a.eval x = .pointer (some ⟨g, k, none⟩)) (hB : VB w g T L) (hl : (L.drop k).take m = l) (hlm : l.length = m)
    (hu : P.underlying ty = some d) (hd : d.isRow = true) (hi : (P.info? ty).map (·.size) = some m)
    (h : wpList P ops Q rest (a.put o.dst (.agg l.toArray)) w) : wpList P ops Q (o :: rest) a w := by
  subst hl
  exact wpList_load_mid hgd ty x ho g k hx _ d (hB.range k m) hu hd (by simpa [hlm] using hi) h
end
end Lk
set_option linter.unusedVariables false
set_option linter.unusedSimpArgs false
namespace Lk
open Go Go.RowKit
def ptag (key : List UInt8) (u : UInt8) (code : ByteArray) : List UInt8 := pcmac 1 key (u :: sb code)
theorem ptag_len (key : List UInt8) (u : UInt8) (code : ByteArray) : (ptag key u code).length = 16 := pcmac_len 1 _ _ (.inl rfl)
end Lk
namespace Go.Proofs.YtbbfjlnkhenbiaaDoor
open Go.RowKit Lk
end Go.Proofs.YtbbfjlnkhenbiaaDoor
set_option linter.unusedVariables false
set_option linter.unusedSimpArgs false
namespace Lk
open Go Go.RowKit
def gcs (k t0 t1 : List UInt8) (a b : Bool) (m n : Int) : List Value := Bl k ++ (Bl t0 ++ (Bl t1 ++ [.bool a, .bool b, .int .i64 m, .int .i64 n]))
def ga (k t0 t1 : List UInt8) (a b : Bool) (m n : Int) : Array Value := (gcs k t0 t1 a b m n).toArray
theorem gcs_len (k t0 t1 : List UInt8) (a b : Bool) (m n : Int) (hk : k.length = 16) (h0 : t0.length = 16) (h1 : t1.length = 16) : (gcs k t0 t1 a b m n).length = 52 := by
  unfold gcs; simp only [List.length_append, Bl_len, hk, h0, h1, List.length_cons, List.length_nil]
theorem gcs_one (k t0 t1 : List UInt8) (a b : Bool) (m n : Int) : ∀ u ∈ gcs k t0 t1 a b m n, u.oneCell' = true := by
  intro u hu
  unfold gcs at hu
  simp only [List.mem_append, List.mem_cons, List.not_mem_nil, or_false] at hu
  rcases hu with h | h | h | rfl | rfl | rfl | rfl
  · exact Bl_one _ u h
  · exact Bl_one _ u h
  · exact Bl_one _ u h
  · rfl
  · rfl
  · rfl
  · rfl
theorem gcs_tail (k t0 t1 : List UInt8) (a b : Bool) (m n : Int) (hk : k.length = 16) (h0 : t0.length = 16) (h1 : t1.length = 16) (j : Nat) (x : Value) (h : [Value.bool a, .bool b, .int .i64 m, .int .i64 n][j]? = some x) : (gcs k t0 t1 a b m n)[48 + j]? = some x := by
  unfold gcs
  rw [List.getElem?_append_right (by rw [Bl_len, hk]; omega), List.getElem?_append_right (by rw [Bl_len, Bl_len, hk, h0]; omega), List.getElem?_append_right (by rw [Bl_len, Bl_len, Bl_len, hk, h0, h1]; omega), Bl_len, Bl_len, Bl_len, hk, h0, h1, show 48 + j - 16 - 16 - 16 = j by omega]
  exact h
theorem gcs_set (k t0 t1 : List UInt8) (a b : Bool) (m n : Int) (hk : k.length = 16) (h0 : t0.length = 16) (h1 : t1.length = 16) (j : Nat) (x : Value) : (gcs k t0 t1 a b m n).set (48 + j) x = Bl k ++ (Bl t0 ++ (Bl t1 ++ [Value.bool a, .bool b, .int .i64 m, .int .i64 n].set j x)) := by
  unfold gcs
  rw [List.set_append_right _ _ (by rw [Bl_len, hk]; omega), List.set_append_right _ _ (by rw [Bl_len, Bl_len, hk, h0]; omega), List.set_append_right _ _ (by rw [Bl_len, Bl_len, Bl_len, hk, h0, h1]; omega), Bl_len, Bl_len, Bl_len, hk, h0, h1, show 48 + j - 16 - 16 - 16 = j by omega]
/-- the block holds a guard -/
def GB (w : World) (g T : Nat) (k t0 t1 : List UInt8) (a b : Bool) (m n : Int) : Prop := VB w g T (gcs k t0 t1 a b m n)
section
variable {w w1 : World} {g T : Nat} {k t0 t1 : List UInt8} {a b : Bool} {m n : Int}
theorem GB.vb (h : GB w g T k t0 t1 a b m n) : VB w g T (gcs k t0 t1 a b m n) := h
theorem GB.lt (h : GB w g T k t0 t1 a b m n) : g < w.heap.size := VB.lt h
theorem GB.old (h : GB w g T k t0 t1 a b m n) {row : Option Nat} (hG : w.grownBy w1 row) (hne : row ≠ some g) : GB w1 g T k t0 t1 a b m n := VB.old h hG hne
theorem GB.below {B : Nat} (h : GB w g T k t0 t1 a b m n) (hG : Below B w w1) (hne : g < B) : GB w1 g T k t0 t1 a b m n := VB.below h hG hne
theorem GB.next (h : GB w g T k t0 t1 a b m n) (hG : Below w.heap.size w w1) : GB w1 g T k t0 t1 a b m n := VB.next h hG
theorem GB.key (h : GB w g T k t0 t1 a b m n) : Rd w g 0 k := VB.rd (A := []) (C := Bl t0 ++ (Bl t1 ++ [.bool a, .bool b, .int .i64 m, .int .i64 n])) h rfl 0 rfl
theorem GB.tag0 (h : GB w g T k t0 t1 a b m n) (hk : k.length = 16) : Rd w g 16 t0 := VB.rd (A := Bl k) (C := Bl t1 ++ [.bool a, .bool b, .int .i64 m, .int .i64 n]) h rfl 16 (by rw [Bl_len, hk])
theorem GB.tag1 (h : GB w g T k t0 t1 a b m n) (hk : k.length = 16) (h0 : t0.length = 16) : Rd w g 32 t1 := VB.rd (A := Bl k ++ Bl t0) (C := [.bool a, .bool b, .int .i64 m, .int .i64 n]) h (by unfold gcs; simp) 32 (by rw [List.length_append, Bl_len, Bl_len, hk, h0])
theorem GB.in0 (h : GB w g T k t0 t1 a b m n) (hk : k.length = 16) (h0 : t0.length = 16) (h1 : t1.length = 16) : w.cell? ⟨g, 48, none⟩ = some (.bool a) := VB.cell h 48 _ (gcs_tail k t0 t1 a b m n hk h0 h1 0 _ rfl)
theorem GB.in1 (h : GB w g T k t0 t1 a b m n) (hk : k.length = 16) (h0 : t0.length = 16) (h1 : t1.length = 16) : w.cell? ⟨g, 49, none⟩ = some (.bool b) := VB.cell h 49 _ (gcs_tail k t0 t1 a b m n hk h0 h1 1 _ rfl)
theorem GB.bad0 (h : GB w g T k t0 t1 a b m n) (hk : k.length = 16) (h0 : t0.length = 16) (h1 : t1.length = 16) : w.cell? ⟨g, 50, none⟩ = some (.int .i64 m) := VB.cell h 50 _ (gcs_tail k t0 t1 a b m n hk h0 h1 2 _ rfl)
theorem GB.bad1 (h : GB w g T k t0 t1 a b m n) (hk : k.length = 16) (h0 : t0.length = 16) (h1 : t1.length = 16) : w.cell? ⟨g, 51, none⟩ = some (.int .i64 n) := VB.cell h 51 _ (gcs_tail k t0 t1 a b m n hk h0 h1 3 _ rfl)
theorem VB.rdS {cs : List Value} {l : List UInt8} {o : Nat} (h : Rd w g o l) (hl : l.length = 16) : SlB w (.slice (some ⟨g, o, none⟩) 16 16) l :=
  ⟨_, 16, by rw [hl], fun h => (by cases h), by omega, by decide, fun _ => ⟨g, o, rfl, h⟩⟩
end
section
variable {P : Program} {ops : Array Oper} {rest : List Oper} {o : Oper} {a : Act} {w : World} {Q : Exit → Act → World → Prop}
theorem store_vr (hgd : o.guard = none) (ty : TypeId) (x y : Operand) (ho : o.op = .store ty x y) (g T m : Nat) (l : List Value) (hx : a.eval x = .pointer (some ⟨g, 0, none⟩)) (hy : a.eval y = .agg l.toArray) (hR : Row w g T m) (h2 : ∀ u ∈ l, u.oneCell' = true) (hm : l.length = m)
    (hi : (P.info? ty).map (·.size) = some m)
    (h : ∀ w1, VB w1 g T l → w.grownBy w1 (some g) → w1.heap.size = w.heap.size → wpList P ops Q rest (a.put o.dst undef) w1) : wpList P ops Q (o :: rest) a w := by
  obtain ⟨old, hg, hs⟩ := hR
  refine wpList_store_row hgd ty x y ho g l.toArray hx hy T old hg (by rw [hi]; simp [hm]) (by rw [hs]; simp [hm]) (all_oneCell_toArray h2) ?_
  refine h _ ?_ ?_ (size_setRow w g _)
  · exact setRow_heap w g old _ T _ hg
  · exact ⟨rfl, rfl, rfl, Nat.le_of_eq (size_setRow w g _).symm, fun i hi hr => setRow_other w g i _ (by rintro rfl; exact hr rfl)⟩
end
end Lk
namespace Go.Proofs.YtbbfjlnkhenbiaaDoor
open Go.RowKit Lk
section
variable {ops : Array Oper} {rest : List Oper} {o : Oper} {a : Act} {w : World} {Q : Exit → Act → World → Prop}
end
end Go.Proofs.YtbbfjlnkhenbiaaDoor
set_option linter.unusedVariables false
set_option linter.unusedSimpArgs false
namespace Lk
open Go Go.RowKit
def zg : List UInt8 := List.replicate 16 0
theorem zg_len : zg.length = 16 := rfl
theorem gcs_in (k t0 t1 : List UInt8) (a b : Bool) (m n : Int) (c d : Bool) (hk : k.length = 16) (h0 : t0.length = 16) (h1 : t1.length = 16) : putV (gcs k t0 t1 a b m n) 48 [.bool c, .bool d] = gcs k t0 t1 c d m n := by
  unfold gcs
  have := putV_mid (Bl k ++ (Bl t0 ++ Bl t1)) [.bool a, .bool b] [.int .i64 m, .int .i64 n] [.bool c, .bool d] 48 (by simp only [List.length_append, Bl_len, hk, h0, h1]) rfl
  simpa using this
theorem gcs_put0 (k t0 t1 t : List UInt8) (a b : Bool) (m n : Int) (hk : k.length = 16) (h0 : t0.length = 16) (ht : t.length = 16) : putV (gcs k t0 t1 a b m n) 16 (Bl t) = gcs k t t1 a b m n := by
  unfold gcs
  exact putV_mid (Bl k) (Bl t0) _ (Bl t) 16 (by rw [Bl_len, hk]) (by rw [Bl_len, Bl_len, h0, ht])
theorem gcs_put1 (k t0 t1 t : List UInt8) (a b : Bool) (m n : Int) (hk : k.length = 16) (h0 : t0.length = 16) (h1 : t1.length = 16) (ht : t.length = 16) : putV (gcs k t0 t1 a b m n) 32 (Bl t) = gcs k t0 t a b m n := by
  unfold gcs
  have := putV_mid (Bl k ++ Bl t0) (Bl t1) [.bool a, .bool b, .int .i64 m, .int .i64 n] (Bl t) 32 (by simp only [List.length_append, Bl_len, hk, h0]) (by rw [Bl_len, Bl_len, h1, ht])
  simpa using this
section
open Go
variable {P : Program} {ops : Array Oper} {rest : List Oper} {o : Oper} {a : Act} {w : World} {Q : Exit → Act → World → Prop}
theorem op_build1 (hgd : o.guard = none) (ty : TypeId) (x : Operand) (ho : o.op = .build ty #[(0, x)]) (v u : Value) (hx : a.eval x = u) (hr : ∀ w, (Instr.build ty #[(0, u)]).run P w = .ok v w)
    (h : wpList P ops Q rest (a.put o.dst v) w) : wpList P ops Q (o :: rest) a w :=
  wpList_plain hgd fun _ hK => by
    unfold Oper.wp execOp
    simp only [ho, Sem.run_bind]
    have e : (#[(0, x)] : Array (Nat × Operand)).map (fun (i, y) => (i, a.eval y)) = #[(0, u)] := by simp [hx]
    rw [e, hr]
    exact hK _ _ h
end
theorem gcs_mid (k t0 t1 : List UInt8) (a b : Bool) (m n : Int) (hk : k.length = 16) (h0 : t0.length = 16) (h1 : t1.length = 16) : ((gcs k t0 t1 a b m n).drop 48).take 2 = [.bool a, .bool b] := by
  unfold gcs
  rw [← List.append_assoc, ← List.append_assoc, List.drop_left' (by simp only [List.length_append, Bl_len, hk, h0, h1])]
  rfl
theorem bs_bl (l : List UInt8) : Bs l = (Bl l).toArray := rfl
end Lk
namespace Go.Proofs.YtbbfjlnkhenbiaaDoor
open Go.RowKit Lk
theorem list16g (l : List UInt8) (h : l.length = 16) : ∃ a0 a1 a2 a3 a4 a5 a6 a7 a8 a9 a10 a11 a12 a13 a14 a15, l = [a0, a1, a2, a3, a4, a5, a6, a7, a8, a9, a10, a11, a12, a13, a14, a15] := by
  match l, h with
  | [a0, a1, a2, a3, a4, a5, a6, a7, a8, a9, a10, a11, a12, a13, a14, a15], _ => exact ⟨a0, a1, a2, a3, a4, a5, a6, a7, a8, a9, a10, a11, a12, a13, a14, a15, rfl⟩
end Go.Proofs.YtbbfjlnkhenbiaaDoor
set_option linter.unusedVariables false
set_option linter.unusedSimpArgs false
namespace Lk
theorem pdo_inj1 (key a b : List UInt8) (ha : a.length = 16) (hb : b.length = 16) (h : pdo 1 key a false = pdo 1 key b false) : a = b := by
  have h2 : pdo 1 key (pdo 1 key a false) true = pdo 1 key (pdo 1 key b false) true := by rw [h]
  have e : ∀ x : List UInt8, x.length = 16 → pdo 1 key (pdo 1 key x false) true = x := fun x hx => pDec_pEnc key x hx
  rwa [e a ha, e b hb] at h2
theorem cmac_short_inj (key a b : List UInt8) (ha : a.length < 16) (hb : b.length < 16) (h : pcmac 1 key a = pcmac 1 key b) : ppad a 16 = ppad b 16 := by
  have hA := pcmac_short 1 key a (.inl rfl) ha
  have hB := pcmac_short 1 key b (.inl rfl) hb
  rw [hA, hB] at h
  have la : (ppad a 16).length = 16 := (ppad_short a 16 ha).2
  have lb : (ppad b 16).length = 16 := (ppad_short b 16 hb).2
  have h2 := pdo_inj1 key _ _ (by rw [pxor_len]; exact la) (by rw [pxor_len]; exact lb) h
  exact (pxor_inj _ _ _ (by rw [la, lb])).1 h2
def k24 : List UInt8 := [1, 0, 0, 0, 0, 0, 0, 0, 0, 0, 0, 0, 0, 0, 0, 0]
def c24a : ByteArray := ⟨#[102, 105, 114, 115, 116]⟩
def c24b : ByteArray := ⟨#[115, 101, 99, 111, 110, 100]⟩
theorem unlike24 : ptag k24 0 c24b ≠ ptag k24 0 c24a := by
  intro h
  have := cmac_short_inj k24 (0 :: sb c24b) (0 :: sb c24a) (by decide) (by decide) h
  revert this
  decide
end Lk
namespace Go.Proofs.YtbbfjlnkhenbiaaDoor
open Go.RowKit Lk
end Go.Proofs.YtbbfjlnkhenbiaaDoor
