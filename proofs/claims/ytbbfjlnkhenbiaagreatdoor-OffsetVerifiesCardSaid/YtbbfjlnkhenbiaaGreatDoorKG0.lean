/- Strings appended to bytes; literal slices; operations of drawn regions told by their runs. -/
import Derived.Test.YtbbfjlnkhenbiaaGreatDoorKB6
import Derived.Test.YtbbfjlnkhenbiaaGreatDoorKB4
import Derived.Test.YtbbfjlnkhenbiaaGreatDoorKB1
import Derived.Test.YtbbfjlnkhenbiaaGreatDoorKB5
import Derived.Test.YtbbfjlnkhenbiaaGreatDoorKM0
import Derived.Laws.ResultCell
import Derived.Deep.QuietTactic
import Derived.BigQuiet
import Derived.Test.YtbbfjlnkhenbiaaGreatDoorKB7
import Derived.LoopN
set_option linter.unusedVariables false
set_option linter.unusedSimpArgs false
namespace Lk
open Go Go.RowKit
theorem own_lit (w : World) (base : Nat) (l : List UInt8) (hb : base ≤ w.heap.size) (hl : l.length ≤ 1000) : Own (w.alloc (.cells (Bs l) u8t)) base (.slice (some ⟨w.heap.size, 0, none⟩) l.length l.length) l :=
  ⟨by rw [Bl_len, Nat.mul_one], .inr ⟨w.heap.size, l.length, Bs l, rfl, hb, heap_alloc_new w _, Nat.le_refl _, by unfold maxLen; omega, by rw [Bs_size, Nat.mul_one], by
    rw [Nat.mul_one]
    unfold Bl Bs
    exact List.take_of_length_le (by simp)⟩⟩
/-- the bytes of a string -/
def sb (s : ByteArray) : List UInt8 := s.data.toList
theorem sb_len (s : ByteArray) : (sb s).length = s.size := by unfold sb; rw [Array.length_toList]; rfl
theorem strCells_sb (s : ByteArray) : Lib.strCells s = Bl (sb s) := rfl
def strt : Nat := 9
section
variable {P : Program} {ops : Array Oper} {rest : List Oper} {o : Oper} {a : Act} {w : World} {Q : Exit → Act → World → Prop} {K : Act → World → Prop} {i : Nat}
theorem wpOp_run (hi : ops[i]? = some o) (hw : Region.wanted o (yielded ops a.tmps) = true) (v : Value) (w1 : World) (h : (execOp a.eval o).run P w = .ok (.value v) w1) (hk : K (a.put o.dst v) w1) : wpOp P ops Q i K a w := by
  unfold Go.wpOp
  simp only [hi, hw, if_true]
  refine .inl ?_
  unfold Oper.wp
  rw [h]
  exact hk
theorem wpOp_append (hi : ops[i]? = some o) (hw : Region.wanted o (yielded ops a.tmps) = true) (hu : P.underlying slt = some (.slice u8t)) (hinfo : (P.info? u8t).map (fun i => (i.zero, i.size, i.bytes)) = some (some (.int .u8 0), 1, 1)) (s x : Operand)
    (ho : o.op = .call { callee := .builtin .append, args := #[s, x], argTypes := #[slt, slt] }) (base : Nat) (v : Value) (l : List UInt8) (hs : a.eval s = v) (hown : Own w base v l)
    (ad : Addr) (k c : Nat) (m : List UInt8) (hx : a.eval x = .slice (some ad) k c) (hm : SlB w (.slice (some ad) k c) m) (hlen : l.length + m.length ≤ 140737488355328) (hbase : base ≤ w.heap.size)
    (h : ∀ v' w', Own w' base v' (l ++ m) → w.grownBy w' v.ownBlock → K (a.put o.dst v') w') : wpOp P ops Q i K a w := by
  unfold Go.wpOp
  simp only [hi, hw, if_true]
  refine .inl ?_
  obtain ⟨ti, hti, hz, h1, h2⟩ := info_parts hinfo
  obtain ⟨A, c', e, n1, n2, n3, n4⟩ := hm
  cases e
  have hnews : ∀ j u, (Bl m)[j]? = some u → w.cell? (ad.add j) = some u := by
    intro j u hj
    obtain ⟨hjl, rfl⟩ := Bl_get m j u hj
    obtain ⟨g, o', e, hr⟩ := n4 (by omega)
    cases e
    have : (⟨g, o', none⟩ : Addr).add j = ⟨g, o' + j, none⟩ := by unfold Addr.add; split <;> simp_all
    rw [this]
    exact hr j hjl
  refine wp_append_own w s x slt ho base u8t ti (.int .u8 0) 1 1 hu hti hz h1 h2 rfl (by decide) v l.length (Bl l) hs hown ad m.length c (Bl m) hx (by rw [Bl_len, Nat.mul_one]) hnews (Bl_one m) (by unfold maxLen; omega) (by omega) hbase ?_
  intro v' w' h3 h4 _
  refine h v' w' ?_ h4
  unfold Own
  rw [List.length_append, Bl_app]
  exact h3
theorem append_s (hu : P.underlying slt = some (.slice u8t)) (hstr : P.underlying strt = some .string) (hinfo : (P.info? u8t).map (fun i => (i.zero, i.size, i.bytes)) = some (some (.int .u8 0), 1, 1)) (hgd : o.guard = none) (s x : Operand)
    (ho : o.op = .call { callee := .builtin .append, args := #[s, x], argTypes := #[slt, strt] }) (base : Nat) (v : Value) (l : List UInt8) (hs : a.eval s = v) (hown : Own w base v l)
    (t : ByteArray) (hx : a.eval x = .string t) (hlen : l.length + t.size ≤ 140737488355328) (hbase : base ≤ w.heap.size)
    (h : ∀ v' w', Own w' base v' (l ++ sb t) → w.grownBy w' v.ownBlock → wpList P ops Q rest (a.put o.dst v') w') : wpList P ops Q (o :: rest) a w := by
  obtain ⟨ti, hti, hz, h1, h2⟩ := info_parts hinfo
  refine Lib.wpList_append_own_string w hgd s x slt strt ho base u8t ti hu hstr hti hz h1 h2 v l.length (Bl l) hs hown t hx (by unfold maxLen; omega) hlen hbase ?_
  intro v' w' h3 h4 _
  refine h v' w' ?_ h4
  unfold Own
  rw [List.length_append, Bl_app, sb_len, ← strCells_sb]
  exact h3
theorem wpOp_append_s (hi : ops[i]? = some o) (hw : Region.wanted o (yielded ops a.tmps) = true) (hu : P.underlying slt = some (.slice u8t)) (hstr : P.underlying strt = some .string) (hinfo : (P.info? u8t).map (fun i => (i.zero, i.size, i.bytes)) = some (some (.int .u8 0), 1, 1)) (s x : Operand)
    (ho : o.op = .call { callee := .builtin .append, args := #[s, x], argTypes := #[slt, strt] }) (base : Nat) (v : Value) (l : List UInt8) (hs : a.eval s = v) (hown : Own w base v l)
    (t : ByteArray) (hx : a.eval x = .string t) (hlen : l.length + t.size ≤ 140737488355328) (hbase : base ≤ w.heap.size)
    (h : ∀ v' w', Own w' base v' (l ++ sb t) → w.grownBy w' v.ownBlock → K (a.put o.dst v') w') : wpOp P ops Q i K a w := by
  unfold Go.wpOp
  simp only [hi, hw, if_true]
  refine .inl ?_
  obtain ⟨ti, hti, hz, h1, h2⟩ := info_parts hinfo
  obtain ⟨v', w', hr, h3, h4, h5⟩ := Lib.run_append_own_string (P := P) w base slt strt o.type u8t ti hu hstr hti hz h1 h2 v l.length (Bl l) hown t (by unfold maxLen; omega) hlen hbase
  unfold Oper.wp execOp
  simp only [ho, resolve, invoke, builtin, Sem.run_bind, Sem.run_pure, Result.andThen_ok, List.map_toArray, List.map_cons, List.map_nil, hs, hx, hr]
  refine h v' w' ?_ h4
  unfold Own
  rw [List.length_append, Bl_app, sb_len, ← strCells_sb]
  exact h3
end
end Lk
namespace Go.Proofs.YtbbfjlnkhenbiaaGreatDoor
open Lk
theorem hu_str : Tryz.prog.underlying strt = some .string := by kernel_rfl
end Go.Proofs.YtbbfjlnkhenbiaaGreatDoor
set_option linter.unusedVariables false
set_option linter.unusedSimpArgs false
namespace Lk
open Go Go.RowKit
/-- cells put over others, from o on -/
def putV : List Value → Nat → List Value → List Value
  | L, _, [] => L
  | L, o, x :: r => putV (L.set o x) (o + 1) r
theorem putV_len (l : List Value) : ∀ (L : List Value) (o : Nat), (putV L o l).length = L.length := by
  induction l with
  | nil => intro L o; rfl
  | cons x r ih => intro L o; show (putV (L.set o x) (o + 1) r).length = _; rw [ih, List.length_set]
theorem putV_eq (l : List Value) : ∀ (L : List Value) (o : Nat), o + l.length ≤ L.length → putV L o l = L.take o ++ l ++ L.drop (o + l.length) := by
  induction l with
  | nil => intro L o h; show L = _; simp
  | cons x r ih =>
    intro L o h
    simp only [List.length_cons] at h
    show putV (L.set o x) (o + 1) r = _
    rw [ih _ _ (by rw [List.length_set]; omega)]
    rw [List.drop_set_of_lt (by omega)]
    rw [List.take_set, List.take_succ_eq_append_getElem (by omega), List.set_append_right _ _ (by simp; omega)]
    simp only [List.length_take, List.length_cons]
    have : min o L.length = o := by omega
    rw [this]
    simp [Nat.add_assoc, Nat.add_comm 1]
theorem putV_mid (A B C D : List Value) (k : Nat) (hk : k = A.length) (h : D.length = B.length) : putV (A ++ (B ++ C)) k D = A ++ (D ++ C) := by
  subst hk
  rw [putV_eq _ _ _ (by simp; omega), List.take_left, h, show A ++ (B ++ C) = (A ++ B) ++ C by simp, show A.length + B.length = (A ++ B).length by simp, List.drop_left]
  simp
theorem set_mid (A C : List Value) (b d : Value) (k : Nat) (hk : k = A.length) : (A ++ b :: C).set k d = A ++ d :: C := by
  subst hk
  rw [List.set_append_right _ _ (Nat.le_refl _), Nat.sub_self]; rfl
/-- the block holds these cells, and may be written -/
def VB (w : World) (g : Nat) (T : TypeId) (cs : List Value) : Prop := w.heap[g]? = some (.cells cs.toArray T (0, 0))
theorem VB.lt {w : World} {g T : Nat} {cs : List Value} (h : VB w g T cs) : g < w.heap.size := (Array.getElem?_eq_some_iff.1 h).1
theorem VB.cell {w : World} {g T : Nat} {cs : List Value} (h : VB w g T cs) (k : Nat) (x : Value) (hk : cs[k]? = some x) : w.cell? ⟨g, k, none⟩ = some x := by
  rw [cell_of_row w g k _ T _ h]; simpa using hk
theorem VB.free {w : World} {g T : Nat} {cs : List Value} (h : VB w g T cs) (k : Nat) : w.frozen? ⟨g, k, none⟩ = false := frozen_of_row w g k _ T h
theorem VB.set {w : World} {g T : Nat} {cs : List Value} (h : VB w g T cs) (k : Nat) (x : Value) : VB (w.setCell ⟨g, k, none⟩ x) g T (cs.set k x) := by
  unfold VB
  rw [heap_setCell_same w g k _ T _ h]; simp
theorem VB.old {w w1 : World} {g T : Nat} {cs : List Value} (h : VB w g T cs) {row : Option Nat} (hG : w.grownBy w1 row) (hne : row ≠ some g) : VB w1 g T cs := by
  unfold VB
  rw [hG.block g h.lt (fun e => hne e.symm)]; exact h
theorem VB.below {w w1 : World} {g T B : Nat} {cs : List Value} (h : VB w g T cs) (hG : Below B w w1) (hne : g < B) : VB w1 g T cs := by
  unfold VB
  rw [hG.block g hne]; exact h
theorem VB.next {w w1 : World} {g T : Nat} {cs : List Value} (h : VB w g T cs) (hG : Below w.heap.size w w1) : VB w1 g T cs := h.below hG h.lt
theorem VB.drewN {w : World} {g T : Nat} {cs : List Value} (h : VB w g T cs) (n : Nat) : VB (w.drewN n) g T cs := h
theorem VB.alloc {w : World} {g T : Nat} {cs : List Value} (h : VB w g T cs) (o : Obj) : VB (w.alloc o) g T cs := h.old (grown_alloc (grown_refl w none) o) (by simp)
theorem VB.setCells {g T : Nat} : ∀ (l : List Value) (w : World) (L : List Value) (o : Nat), VB w g T L → VB (w.setCells g o l) g T (putV L o l)
  | [], w, L, o, h => h
  | x :: r, w, L, o, h => VB.setCells r _ _ _ (h.set o x)
theorem VB.range {w : World} {g T : Nat} {cs : List Value} (h : VB w g T cs) (o n : Nat) : w.rangeAt g o ((cs.drop o).take n) := by
  intro j v hj
  refine h.cell (o + j) v ?_
  rw [List.getElem?_take] at hj
  split at hj
  · rw [List.getElem?_drop] at hj; exact hj
  · cases hj
theorem VB.there {w : World} {g T : Nat} {cs : List Value} (h : VB w g T cs) (h1 : ∀ u ∈ cs, u.oneCell' = true) (o n : Nat) (hn : o + n ≤ cs.length) : w.there g o n := fun j hj => by
  refine ⟨?_, h.free _⟩
  rw [h.cell (o + j) (cs[o + j]'(by omega)) (List.getElem?_eq_getElem (by omega))]; rfl
theorem VB.row {w : World} {g T n : Nat} {cs : List Value} (h : VB w g T cs) (hl : cs.length = n) : Row w g T n := ⟨_, h, by simpa using hl⟩
/-- bytes among the cells -/
theorem VB.rd {w : World} {g T : Nat} {cs A C : List Value} {l : List UInt8} (h : VB w g T cs) (e : cs = A ++ (Bl l ++ C)) (k : Nat) (hk : k = A.length) : Rd w g k l := fun j hj => by
  subst hk
  refine h.cell _ _ ?_
  rw [e, List.getElem?_append_right (by omega), Nat.add_sub_cancel_left, List.getElem?_append_left (by rw [Bl_len]; exact hj)]
  exact Bl_get' l j hj
section
variable {P : Program} {ops : Array Oper} {rest : List Oper} {o : Oper} {a : Act} {w : World} {Q : Exit → Act → World → Prop}
theorem box_vb (hgd : o.guard = none) (ty : TypeId) (x : Operand) (ho : o.op = .box ty x) (cs : List Value) (hx : a.eval x = .agg cs.toArray)
    (h : ∀ w1, VB w1 w.heap.size ty cs → w.grownBy w1 none → w1.heap.size = w.heap.size + 1 → wpList P ops Q rest (a.put o.dst (.pointer (some ⟨w.heap.size, 0, none⟩))) w1) : wpList P ops Q (o :: rest) a w :=
  wpList_plain hgd fun _ hK => by
    unfold Oper.wp execOp
    simp only [ho, Sem.run_bind, hx, run_box ty _ w, Result.andThen_ok]
    exact hK _ _ (h _ (heap_alloc_new w _) (grown_alloc (grown_refl w none) _) (by show (w.heap.push _).size = _; simp))
theorem alloc_vb (hgd : o.guard = none) (ty : TypeId) (ho : o.op = .alloc ty) (z : Value) (cs : List Value) (hz : ∀ w : World, (zeroValue ty).run P w = .ok z w) (hn : z.cells = cs.toArray)
    (h : ∀ w1, VB w1 w.heap.size ty cs → w.grownBy w1 none → w1.heap.size = w.heap.size + 1 → wpList P ops Q rest (a.put o.dst (.pointer (some ⟨w.heap.size, 0, none⟩))) w1) : wpList P ops Q (o :: rest) a w :=
  wpList_plain hgd fun _ hK => by
    unfold Oper.wp execOp
    simp only [ho, Sem.run_bind, run_alloc ty z w hz, Result.andThen_ok, hn]
    exact hK _ _ (h _ (heap_alloc_new w _) (grown_alloc (grown_refl w none) _) (by show (w.heap.push _).size = _; simp))
theorem store_vb (hgd : o.guard = none) (ty : TypeId) (x y : Operand) (ho : o.op = .store ty x y) (g k T m : Nat) (L l : List Value) (hx : a.eval x = .pointer (some ⟨g, k, none⟩)) (hy : a.eval y = .agg l.toArray) (hB : VB w g T L) (h1 : ∀ u ∈ L, u.oneCell' = true) (h2 : ∀ u ∈ l, u.oneCell' = true) (hm : l.length = m) (hl : k + m ≤ L.length)
    (hi : (P.info? ty).map (·.size) = some m)
    (h : ∀ w1, VB w1 g T (putV L k l) → w.grownBy w1 (some g) → w1.heap.size = w.heap.size → wpList P ops Q rest (a.put o.dst undef) w1) : wpList P ops Q (o :: rest) a w := by
  subst hm
  refine wpList_store_mid hgd ty x y ho g k l.toArray hx hy (by simpa using hB.there h1 k _ hl) (by simpa using hi) (all_oneCell_toArray h2) ?_
  exact h _ (VB.setCells l w L k hB) (grown_setCells _ _ _ _ (grown_refl _ _)) (size_setCells _ _ _)
theorem store_vb1 (hgd : o.guard = none) (ty : TypeId) (x y : Operand) (ho : o.op = .store ty x y) (g k T : Nat) (L : List Value) (v : Value) (hx : a.eval x = .pointer (some ⟨g, k, none⟩)) (hy : a.eval y = v) (hv : v.oneCell' = true) (hB : VB w g T L) (u : Value) (hk : L[k]? = some u)
    (hi : (P.info? ty).map (·.size) = some 1)
    (h : ∀ w1, VB w1 g T (L.set k v) → w.grownBy w1 (some g) → w1.heap.size = w.heap.size → wpList P ops Q rest (a.put o.dst undef) w1) : wpList P ops Q (o :: rest) a w :=
  wpList_plain hgd fun _ hK => by
    unfold Oper.wp execOp
    simp only [ho, hx, hy, Instr.storeAt, Instr.sureAddr, Sem.run_bind, Sem.run_pure, Result.andThen_ok, run_storeVar_one w g k ty _ v (hB.cell k u hk) (hB.free k) hv hi]
    exact hK _ _ (h _ (hB.set k v) (grown_set (grown_refl _ _) _ _) (World.size_setCell ..))
/-- an aggregate read out of a block, in its midst or whole -/
theorem load_vb (hgd : o.guard = none) (ty : TypeId) (x : Operand) (ho : o.op = .load ty x) (g k : Nat) (T m : Nat) (d : TypeDesc) (L l : List Value) (hx : a.eval x = .pointer (some ⟨g, k, none⟩)) (hB : VB w g T L) (hl : (L.drop k).take m = l) (hlm : l.length = m)
    (hu : P.underlying ty = some d) (hd : d.isRow = true) (hi : (P.info? ty).map (·.size) = some m)
    (h : wpList P ops Q rest (a.put o.dst (.agg l.toArray)) w) : wpList P ops Q (o :: rest) a w := by
  subst hl
  exact wpList_load_mid hgd ty x ho g k hx _ d (hB.range k m) hu hd (by simpa [hlm] using hi) h
end
end Lk
set_option linter.unusedVariables false
set_option linter.unusedSimpArgs false
namespace Lk
open Go Go.RowKit
def ptag (key : List UInt8) (u : UInt8) (code : ByteArray) : List UInt8 := pcmac 1 key (u :: sb code)
theorem ptag_len (key : List UInt8) (u : UInt8) (code : ByteArray) : (ptag key u code).length = 16 := pcmac_len 1 _ _ (.inl rfl)
end Lk
namespace Go.Proofs.YtbbfjlnkhenbiaaGreatDoor
open Go.RowKit Lk
theorem Cmac_at (n : Nat) (k : Int) (hkn : k = n) (q vt : Value) (B kind : Nat) (key text : List UInt8) (w : World) (hk : kind = 1 ∨ kind = 2) (h : Cip w B q kind key) (hB : B ≤ w.heap.size) (hf : pfits kind key.length = true) (hs : SlB w vt text) (hl : text.length ≤ 1000) (hn1 : 1 ≤ n) (hn2 : n ≤ psize kind) :
    Calls Tryz.prog 24 #[q, vt, .int .i64 k] w fun e w' => ∃ v, e = .returned (.tuple #[v, .nilIface]) ∧ Own w' w.heap.size v ((pcmac kind key text).take n) ∧ Below w.heap.size w w' := by
  subst hkn; exact Cmac_any q vt B kind n key text w hk h hB hf hs hl hn1 hn2
set_option maxHeartbeats 3200000 in
set_option maxRecDepth 100000 in
theorem tag_yes (key : List UInt8) (z : Int) (u : UInt8) (code : ByteArray) (w : World) (hz : z = bv u) (hk : key.length = 16) (h1 : 4 ≤ code.size) (h2 : code.size ≤ 16) :
    Calls Tryz.prog 60 #[.agg (Bs key), .int .i64 z, .string code] w fun e w' => e = .returned (.tuple #[.agg (Bs (ptag key u code)), .nilIface]) ∧ Below w.heap.size w w' := by
  obtain ⟨N, hN⟩ : ∃ N, w.heap.size = N := ⟨_, rfl⟩
  have HN := Lib.hid hN
  have HK := Lib.hid hk
  have HC1 := Lib.hid h1
  have HC2 := Lib.hid h2
  have hb : IntKind.u8.wrap z = bv u := by
    rw [hz]; have := bv_ge u; have := bv_lt u
    rw [IntKind.wrap_u8]; omega
  have hzu : z % 256 = bv u := by rw [← hb, IntKind.wrap_u8]
  have c1 : ¬ (code.size : Int) < 4 := by omega
  have c2 : ¬ (16 : Int) < (code.size : Int) := by omega
  clear hz hk
  go_enter Tryz.func60, Tryz.ntmps60
  go_wp2_with (first
    | ((with_reducible show wpList _ _ _ _ _ w); refine box_blk (w := w) rfl 53 _ rfl key rfl ?_; intro w0 hA0 hG0 hz0; rw [hN] at hA0 hz0 ⊢)
    | ((with_reducible show wpList _ _ _ _ _ w0); refine alloc_row (w := w0) rfl 53 rfl (.agg (Bs (List.replicate 16 0))) 16 (fun _ => by kernel_rfl) rfl ?_; intro w1 hR1 _ hG1 hz1; rw [hz0] at hR1 hz1 ⊢; have hA1 := hA0.old hG1 (by simp); have hM1 : Below N w w1 := (below_none (below_none (Below.refl _ _) (by omega) hG0) (by omega) hG1))
    | (go_at_call 22; refine (New_aes _ key w1 (by rw [HK.out]; decide) (hA1.slB HK.out (by decide))).mono ?_; rintro e w2 ⟨q, rfl, hC2, hL2⟩; have HC := Lib.hid hC2; obtain ⟨gq, _, _, rfl, _⟩ := hC2; have HL2 := Lib.hid hL2; have HM2 := Lib.hid (below_more hM1 hL2 (by omega)); have HR2 := Lib.hid (hR1.below hL2 (by omega)); have HZ2 := Lib.hid (show N + 1 + 1 ≤ w2.heap.size by have := hL2.size; omega); clear hL2 hM1 hR1 hA1 hA0 hG0 hG1 hz0 hz1)
    | (at_builtin; refine append_s hu_sl hu_str hu_u8 rfl _ _ rfl w2.heap.size _ [u] (by rfl) (own_lit w2 _ [u] (Nat.le_refl _) (by simp)) code (by rfl) (by have := HC2.out; simp; omega) (by simp) ?_; intro vT w3 hO3 hG3; have HL3 := Lib.hid (show Below w2.heap.size w2 w3 from below_new ((Below.refl _ _).alloc (Nat.le_refl _) _) (by simp) hG3 (Nat.le_refl _)); have HO3 := Lib.hid hO3; obtain ⟨AT, cT, rfl, hcT⟩ := hO3.slB.formc rfl; clear hO3 hG3)
    | (go_at_call 24; refine (Cmac_at 16 16 rfl _ _ w2.heap.size 1 key (u :: sb code) w3 (by decide) (HC.out.below HL3.out (Nat.le_refl _)) HL3.out.size (by rw [HK.out]; decide) HO3.out.slB (by have := HC2.out; rw [List.length_cons, sb_len]; omega) (by decide) (by decide)).mono ?_; rintro e w4 ⟨vM, rfl, hO4, hL4⟩; rw [List.take_of_length_le (by rw [pcmac_len 1 _ _ (.inl rfl)]; decide)] at hO4; have HO4 := Lib.hid hO4; obtain ⟨gM, cM, eM, hgM, _, hrM, _, hcM⟩ := hO4.form (by rw [pcmac_len 1 _ _ (.inl rfl)]; decide); rw [show (pcmac 1 key (u :: sb code)).length = 16 from pcmac_len 1 _ _ (.inl rfl)] at eM hcM; subst eM; have HRM := Lib.hid hrM; have HM4 := Lib.hid (below_more (below_more HM2.out HL3.out (by have := HZ2.out; omega)) hL4 (by have := HZ2.out; have := HL3.out.size; omega)); have HR4 := Lib.hid ((HR2.out.below HL3.out (by have := HZ2.out; omega)).below hL4 (by have := HZ2.out; have := HL3.out.size; omega)); have HZ4 := Lib.hid (show N + 1 + 1 ≤ w4.heap.size by have := HZ2.out; have := HL3.out.size; have := hL4.size; omega); clear hO4 hL4 hrM)
    | (refine to_array rfl 53 _ rfl _ 16 _ _ 5 rfl (by omega) (by kernel_rfl) ?_)
    | ((with_reducible show wpList _ _ _ _ _ w4); refine load_rd (w := w4) rfl 53 _ rfl gM 0 16 5 (ptag key u code) rfl HRM.out (ptag_len _ _ _) (by kernel_rfl) (by kernel_rfl) ?_)
    | ((with_reducible show wpList _ _ _ _ _ w4); refine store_blk (w := w4) rfl 53 _ _ rfl (N + 1) 53 16 (ptag key u code) rfl rfl HR4.out (ptag_len _ _ _) (by kernel_rfl) ?_; intro w5 hB5 hG5 hz5))
  refine bodyPost_ret (results_blk rfl _ _ (N + 1) 53 16 5 (ptag key u code) rfl hB5 (ptag_len _ _ _) (by kernel_rfl) (by kernel_rfl)) rfl ⟨rfl, ?_⟩
  rw [HN.out]
  exact below_new HM4.out (by have := HZ4.out; omega) hG5 (by omega)
set_option maxHeartbeats 1600000 in
set_option maxRecDepth 100000 in
theorem tag_no (key : List UInt8) (z : Int) (code : ByteArray) (w : World) (hk : key.length = 16) (hcs : code.size ≤ 140737488351232) (h : code.size < 4 ∨ 16 < code.size) :
    Calls Tryz.prog 60 #[.agg (Bs key), .int .i64 z, .string code] w fun e w' => e = .returned (.tuple #[.agg (Bs (List.replicate 16 0)), .iface 91 (.int .i64 2)]) ∧ Below w.heap.size w w' := by
  obtain ⟨N, hN⟩ : ∃ N, w.heap.size = N := ⟨_, rfl⟩
  have HN := Lib.hid hN
  have HK := Lib.hid hk
  clear hk
  rcases h with h | h
  · have c1 : (code.size : Int) < 4 := by omega
    go_enter Tryz.func60, Tryz.ntmps60
    go_wp2_with (first
      | ((with_reducible show wpList _ _ _ _ _ w); refine box_blk (w := w) rfl 53 _ rfl key rfl ?_; intro w0 hA0 hG0 hz0; rw [hN] at hA0 hz0 ⊢)
      | ((with_reducible show wpList _ _ _ _ _ w0); refine alloc_row (w := w0) rfl 53 rfl (.agg (Bs (List.replicate 16 0))) 16 (fun _ => by kernel_rfl) rfl ?_; intro w1 hR1 _ hG1 hz1; rw [hz0] at hR1 hz1 ⊢; have hM1 : Below N w w1 := (below_none (below_none (Below.refl _ _) (by omega) hG0) (by omega) hG1))
      | ((with_reducible show wpList _ _ _ _ _ w1); refine store_blk (w := w1) rfl 53 _ _ rfl (N + 1) 53 16 (List.replicate 16 0) (by rfl) (by rfl) hR1 rfl (by kernel_rfl) ?_; intro w5 hB5 hG5 hz5))
    refine bodyPost_ret (results_blk rfl _ _ (N + 1) 53 16 5 (List.replicate 16 0) rfl hB5 rfl (by kernel_rfl) (by kernel_rfl)) rfl ⟨rfl, ?_⟩
    first | rw [HN.out] | skip
    exact below_new hM1 (by omega) hG5 (by omega)
  · have c1 : ¬ (code.size : Int) < 4 := by omega
    have c2 : (16 : Int) < (code.size : Int) := by omega
    go_enter Tryz.func60, Tryz.ntmps60
    go_wp2_with (first
      | ((with_reducible show wpList _ _ _ _ _ w); refine box_blk (w := w) rfl 53 _ rfl key rfl ?_; intro w0 hA0 hG0 hz0; rw [hN] at hA0 hz0 ⊢)
      | ((with_reducible show wpList _ _ _ _ _ w0); refine alloc_row (w := w0) rfl 53 rfl (.agg (Bs (List.replicate 16 0))) 16 (fun _ => by kernel_rfl) rfl ?_; intro w1 hR1 _ hG1 hz1; rw [hz0] at hR1 hz1 ⊢; have hM1 : Below N w w1 := (below_none (below_none (Below.refl _ _) (by omega) hG0) (by omega) hG1))
      | ((with_reducible show wpList _ _ _ _ _ w1); refine store_blk (w := w1) rfl 53 _ _ rfl (N + 1) 53 16 (List.replicate 16 0) (by rfl) (by rfl) hR1 rfl (by kernel_rfl) ?_; intro w5 hB5 hG5 hz5))
    refine bodyPost_ret (results_blk rfl _ _ (N + 1) 53 16 5 (List.replicate 16 0) rfl hB5 rfl (by kernel_rfl) (by kernel_rfl)) rfl ⟨rfl, ?_⟩
    first | rw [HN.out] | skip
    exact below_new hM1 (by omega) hG5 (by omega)
end Go.Proofs.YtbbfjlnkhenbiaaGreatDoor
set_option linter.unusedVariables false
set_option linter.unusedSimpArgs false
namespace Lk
open Go Go.RowKit
def gcs (k t0 t1 : List UInt8) (a b : Bool) (m n : Int) : List Value := Bl k ++ (Bl t0 ++ (Bl t1 ++ [.bool a, .bool b, .int .i64 m, .int .i64 n]))
def ga (k t0 t1 : List UInt8) (a b : Bool) (m n : Int) : Array Value := (gcs k t0 t1 a b m n).toArray
theorem gcs_len (k t0 t1 : List UInt8) (a b : Bool) (m n : Int) (hk : k.length = 16) (h0 : t0.length = 16) (h1 : t1.length = 16) : (gcs k t0 t1 a b m n).length = 52 := by
  unfold gcs; simp only [List.length_append, Bl_len, hk, h0, h1, List.length_cons, List.length_nil]
theorem gcs_one (k t0 t1 : List UInt8) (a b : Bool) (m n : Int) : ∀ u ∈ gcs k t0 t1 a b m n, u.oneCell' = true := by
  intro u hu
  unfold gcs at hu
  simp only [List.mem_append, List.mem_cons, List.not_mem_nil, or_false] at hu
  rcases hu with h | h | h | rfl | rfl | rfl | rfl
  · exact Bl_one _ u h
  · exact Bl_one _ u h
  · exact Bl_one _ u h
  · rfl
  · rfl
  · rfl
  · rfl
theorem gcs_tail (k t0 t1 : List UInt8) (a b : Bool) (m n : Int) (hk : k.length = 16) (h0 : t0.length = 16) (h1 : t1.length = 16) (j : Nat) (x : Value) (h : [Value.bool a, .bool b, .int .i64 m, .int .i64 n][j]? = some x) : (gcs k t0 t1 a b m n)[48 + j]? = some x := by
  unfold gcs
  rw [List.getElem?_append_right (by rw [Bl_len, hk]; omega), List.getElem?_append_right (by rw [Bl_len, Bl_len, hk, h0]; omega), List.getElem?_append_right (by rw [Bl_len, Bl_len, Bl_len, hk, h0, h1]; omega), Bl_len, Bl_len, Bl_len, hk, h0, h1, show 48 + j - 16 - 16 - 16 = j by omega]
  exact h
theorem gcs_set (k t0 t1 : List UInt8) (a b : Bool) (m n : Int) (hk : k.length = 16) (h0 : t0.length = 16) (h1 : t1.length = 16) (j : Nat) (x : Value) : (gcs k t0 t1 a b m n).set (48 + j) x = Bl k ++ (Bl t0 ++ (Bl t1 ++ [Value.bool a, .bool b, .int .i64 m, .int .i64 n].set j x)) := by
  unfold gcs
  rw [List.set_append_right _ _ (by rw [Bl_len, hk]; omega), List.set_append_right _ _ (by rw [Bl_len, Bl_len, hk, h0]; omega), List.set_append_right _ _ (by rw [Bl_len, Bl_len, Bl_len, hk, h0, h1]; omega), Bl_len, Bl_len, Bl_len, hk, h0, h1, show 48 + j - 16 - 16 - 16 = j by omega]
/-- the block holds a guard -/
def GB (w : World) (g T : Nat) (k t0 t1 : List UInt8) (a b : Bool) (m n : Int) : Prop := VB w g T (gcs k t0 t1 a b m n)
section
variable {w w1 : World} {g T : Nat} {k t0 t1 : List UInt8} {a b : Bool} {m n : Int}
theorem GB.vb (h : GB w g T k t0 t1 a b m n) : VB w g T (gcs k t0 t1 a b m n) := h
theorem GB.lt (h : GB w g T k t0 t1 a b m n) : g < w.heap.size := VB.lt h
theorem GB.old (h : GB w g T k t0 t1 a b m n) {row : Option Nat} (hG : w.grownBy w1 row) (hne : row ≠ some g) : GB w1 g T k t0 t1 a b m n := VB.old h hG hne
theorem GB.below {B : Nat} (h : GB w g T k t0 t1 a b m n) (hG : Below B w w1) (hne : g < B) : GB w1 g T k t0 t1 a b m n := VB.below h hG hne
theorem GB.next (h : GB w g T k t0 t1 a b m n) (hG : Below w.heap.size w w1) : GB w1 g T k t0 t1 a b m n := VB.next h hG
theorem GB.key (h : GB w g T k t0 t1 a b m n) : Rd w g 0 k := VB.rd (A := []) (C := Bl t0 ++ (Bl t1 ++ [.bool a, .bool b, .int .i64 m, .int .i64 n])) h rfl 0 rfl
theorem GB.tag0 (h : GB w g T k t0 t1 a b m n) (hk : k.length = 16) : Rd w g 16 t0 := VB.rd (A := Bl k) (C := Bl t1 ++ [.bool a, .bool b, .int .i64 m, .int .i64 n]) h rfl 16 (by rw [Bl_len, hk])
theorem GB.tag1 (h : GB w g T k t0 t1 a b m n) (hk : k.length = 16) (h0 : t0.length = 16) : Rd w g 32 t1 := VB.rd (A := Bl k ++ Bl t0) (C := [.bool a, .bool b, .int .i64 m, .int .i64 n]) h (by unfold gcs; simp) 32 (by rw [List.length_append, Bl_len, Bl_len, hk, h0])
theorem GB.in0 (h : GB w g T k t0 t1 a b m n) (hk : k.length = 16) (h0 : t0.length = 16) (h1 : t1.length = 16) : w.cell? ⟨g, 48, none⟩ = some (.bool a) := VB.cell h 48 _ (gcs_tail k t0 t1 a b m n hk h0 h1 0 _ rfl)
theorem GB.in1 (h : GB w g T k t0 t1 a b m n) (hk : k.length = 16) (h0 : t0.length = 16) (h1 : t1.length = 16) : w.cell? ⟨g, 49, none⟩ = some (.bool b) := VB.cell h 49 _ (gcs_tail k t0 t1 a b m n hk h0 h1 1 _ rfl)
theorem GB.bad0 (h : GB w g T k t0 t1 a b m n) (hk : k.length = 16) (h0 : t0.length = 16) (h1 : t1.length = 16) : w.cell? ⟨g, 50, none⟩ = some (.int .i64 m) := VB.cell h 50 _ (gcs_tail k t0 t1 a b m n hk h0 h1 2 _ rfl)
theorem GB.bad1 (h : GB w g T k t0 t1 a b m n) (hk : k.length = 16) (h0 : t0.length = 16) (h1 : t1.length = 16) : w.cell? ⟨g, 51, none⟩ = some (.int .i64 n) := VB.cell h 51 _ (gcs_tail k t0 t1 a b m n hk h0 h1 3 _ rfl)
theorem VB.rdS {cs : List Value} {l : List UInt8} {o : Nat} (h : Rd w g o l) (hl : l.length = 16) : SlB w (.slice (some ⟨g, o, none⟩) 16 16) l :=
  ⟨_, 16, by rw [hl], fun h => (by cases h), by omega, by decide, fun _ => ⟨g, o, rfl, h⟩⟩
end
section
variable {P : Program} {ops : Array Oper} {rest : List Oper} {o : Oper} {a : Act} {w : World} {Q : Exit → Act → World → Prop}
theorem store_vr (hgd : o.guard = none) (ty : TypeId) (x y : Operand) (ho : o.op = .store ty x y) (g T m : Nat) (l : List Value) (hx : a.eval x = .pointer (some ⟨g, 0, none⟩)) (hy : a.eval y = .agg l.toArray) (hR : Row w g T m) (h2 : ∀ u ∈ l, u.oneCell' = true) (hm : l.length = m)
    (hi : (P.info? ty).map (·.size) = some m)
    (h : ∀ w1, VB w1 g T l → w.grownBy w1 (some g) → w1.heap.size = w.heap.size → wpList P ops Q rest (a.put o.dst undef) w1) : wpList P ops Q (o :: rest) a w := by
  obtain ⟨old, hg, hs⟩ := hR
  refine wpList_store_row hgd ty x y ho g l.toArray hx hy T old hg (by rw [hi]; simp [hm]) (by rw [hs]; simp [hm]) (all_oneCell_toArray h2) ?_
  refine h _ ?_ ?_ (size_setRow w g _)
  · exact setRow_heap w g old _ T _ hg
  · exact ⟨rfl, rfl, rfl, Nat.le_of_eq (size_setRow w g _).symm, fun i hi hr => setRow_other w g i _ (by rintro rfl; exact hr rfl)⟩
end
end Lk
namespace Go.Proofs.YtbbfjlnkhenbiaaGreatDoor
open Go.RowKit Lk
def gdt : Nat := 60
theorem gdt_s : (match Tryz.prog.underlying gdt with | some (.struct _) => true | _ => false) = true := by kernel_rfl
theorem gdt_d : ∃ f, Tryz.prog.underlying gdt = some (.struct f) := by
  have h := gdt_s
  revert h
  cases Tryz.prog.underlying gdt with
  | none => intro h; cases h
  | some d => cases d <;> intro h <;> first | exact ⟨_, rfl⟩ | cases h
theorem gdt_i : (Tryz.prog.info? gdt).map (·.size) = some 52 := by kernel_rfl
theorem load_guard (w : World) (g T : Nat) (k t0 t1 : List UInt8) (a b : Bool) (m n : Int) (h : GB w g T k t0 t1 a b m n) (hk : k.length = 16) (h0 : t0.length = 16) (h1 : t1.length = 16) : (loadVar gdt ⟨g, 0, none⟩ : Sem Value).run Tryz.prog w = .ok (.agg (ga k t0 t1 a b m n)) w := by
  obtain ⟨f, hf⟩ := gdt_d
  exact run_loadVar_row w g T gdt (ga k t0 t1 a b m n) (0, 0) _ h hf rfl (by unfold ga; rw [List.size_toArray, gcs_len _ _ _ _ _ _ _ hk h0 h1]; exact gdt_i)
section
variable {ops : Array Oper} {rest : List Oper} {o : Oper} {a : Act} {w : World} {Q : Exit → Act → World → Prop}
theorem load_gd (hw : Region.wanted o (yielded ops a.tmps) = true) (x : Operand) (ho : o.op = .load gdt x) (g T : Nat) (k t0 t1 : List UInt8) (p q : Bool) (m n : Int) (hx : a.eval x = .pointer (some ⟨g, 0, none⟩)) (hB : GB w g T k t0 t1 p q m n) (hk : k.length = 16) (h0 : t0.length = 16) (h1 : t1.length = 16)
    (h : wpList Tryz.prog ops Q rest (a.put o.dst (.agg (ga k t0 t1 p q m n))) w) : wpList Tryz.prog ops Q (o :: rest) a w :=
  wpList_step fun K hK => by
    simp only [hw, if_true]
    unfold Oper.wp execOp
    simp only [ho, hx, Instr.loadAt, Instr.sureAddr, Sem.run_bind, Sem.run_pure, Result.andThen_ok, load_guard w g T k t0 t1 p q m n hB hk h0 h1]
    exact hK _ _ h
theorem results_gd {fn : Func} {p u : Tmp} (h : fn.results = #[.cell p gdt, .tmp u]) (tmps : Array Value) (w : World) (g T : Nat) (k t0 t1 : List UInt8) (a b : Bool) (m n : Int)
    (hp : tmps.getD p undef = .pointer (some ⟨g, 0, none⟩)) (hg : GB w g T k t0 t1 a b m n) (hk : k.length = 16) (h0 : t0.length = 16) (h1 : t1.length = 16) :
    (results fn tmps).run Tryz.prog w = .ok (.tuple #[.agg (ga k t0 t1 a b m n), tmps.getD u undef]) w := by
  rw [results_cell_tmp h, hp]
  simp only [asAddr, Sem.run_pure, Result.andThen, load_guard w g T k t0 t1 a b m n hg hk h0 h1]
theorem results_gd1 {fn : Func} {p : Tmp} (h : fn.results = #[.cell p gdt]) (tmps : Array Value) (w : World) (g T : Nat) (k t0 t1 : List UInt8) (a b : Bool) (m n : Int)
    (hp : tmps.getD p undef = .pointer (some ⟨g, 0, none⟩)) (hg : GB w g T k t0 t1 a b m n) (hk : k.length = 16) (h0 : t0.length = 16) (h1 : t1.length = 16) :
    (results fn tmps).run Tryz.prog w = .ok (.agg (ga k t0 t1 a b m n)) w := by
  obtain ⟨f, hf⟩ := gdt_d
  exact results_cell_row h tmps w g T (ga k t0 t1 a b m n) (0, 0) _ hp hg hf rfl (by unfold ga; rw [List.size_toArray, gcs_len _ _ _ _ _ _ _ hk h0 h1]; exact gdt_i)
end
set_option maxHeartbeats 3200000 in
set_option maxRecDepth 100000 in
theorem Enter_arg (k t0 t1 : List UInt8) (a b : Bool) (m n : Int) (who : Int) (code : ByteArray) (w : World) (hk : k.length = 16) (h0 : t0.length = 16) (h1 : t1.length = 16) (hw : who ≠ 0 ∧ who ≠ 1) :
    Calls Tryz.prog 31 #[.agg (ga k t0 t1 a b m n), .int .i64 who, .string code] w fun e w' => e = .returned (.tuple #[.agg (ga k t0 t1 a b m n), .iface 91 (.int .i64 1)]) ∧ Below w.heap.size w w' := by
  obtain ⟨N, hN⟩ : ∃ N, w.heap.size = N := ⟨_, rfl⟩
  have HN := Lib.hid hN
  have HK := Lib.hid hk
  have H0 := Lib.hid h0
  have H1 := Lib.hid h1
  clear hk h0 h1 hN
  have hw0 : (who != 0) = true := by simp [hw.1]
  have hw1 : (who != 1) = true := by simp [hw.2]
  clear hw
  go_enter Tryz.func31, Tryz.ntmps31
  go_wp2_with (first
    | ((with_reducible show wpList _ _ _ _ _ w); refine box_vb (w := w) rfl gdt _ rfl (gcs k t0 t1 a b m n) (by rfl) ?_; intro w0 hA0 hG0 hz0; rw [HN.out] at hA0 hz0 ⊢)
    | ((with_reducible show wpList _ _ _ _ _ w0); refine alloc_row (w := w0) rfl gdt rfl (.agg (ga (List.replicate 16 0) (List.replicate 16 0) (List.replicate 16 0) false false 0 0)) 52 (fun _ => by kernel_rfl) (by kernel_rfl) ?_; intro w1 hR1 _ hG1 hz1; rw [hz0] at hR1 hz1 ⊢; have hA1 : GB w1 N gdt k t0 t1 a b m n := (VB.old hA0 hG1 (by simp)); have hM1 : Below N w w1 := (below_none (below_none (Below.refl _ _) (by rw [HN.out]; omega) hG0) (by omega) hG1); clear hA0 hG0 hG1)
    | ((with_reducible show wpList _ _ _ _ _ w1); refine load_gd (w := w1) (by rfl) _ rfl N gdt k t0 t1 a b m n (by rfl) hA1 HK.out H0.out H1.out ?_)
    | ((with_reducible show wpList _ _ _ _ _ w1); refine store_vr (w := w1) rfl gdt _ _ rfl (N + 1) gdt 52 (gcs k t0 t1 a b m n) (by rfl) (by rfl) hR1 (gcs_one _ _ _ _ _ _ _) (gcs_len _ _ _ _ _ _ _ HK.out H0.out H1.out) gdt_i ?_; intro w9 hB9 hG9 hz9))
  refine bodyPost_ret (results_gd rfl _ _ (N + 1) gdt k t0 t1 a b m n rfl hB9 HK.out H0.out H1.out) rfl ⟨rfl, ?_⟩
  rw [HN.out]
  exact below_new hM1 (by omega) hG9 (by omega)
set_option maxHeartbeats 3200000 in
set_option maxRecDepth 100000 in
theorem Enter_locked0 (k t0 t1 : List UInt8) (a b : Bool) (m n : Int) (code : ByteArray) (w : World) (hk : k.length = 16) (h0 : t0.length = 16) (h1 : t1.length = 16) (hb : 5 ≤ m) :
    Calls Tryz.prog 31 #[.agg (ga k t0 t1 a b m n), .int .i64 0, .string code] w fun e w' => e = .returned (.tuple #[.agg (ga k t0 t1 a b m n), .iface 91 (.int .i64 9)]) ∧ Below w.heap.size w w' := by
  obtain ⟨N, hN⟩ : ∃ N, w.heap.size = N := ⟨_, rfl⟩
  have HN := Lib.hid hN
  have HK := Lib.hid hk
  have H0 := Lib.hid h0
  have H1 := Lib.hid h1
  clear hk h0 h1 hN
  go_enter Tryz.func31, Tryz.ntmps31
  go_wp2_with (first
    | ((with_reducible show wpList _ _ _ _ _ w); refine box_vb (w := w) rfl gdt _ rfl (gcs k t0 t1 a b m n) (by rfl) ?_; intro w0 hA0 hG0 hz0; rw [HN.out] at hA0 hz0 ⊢)
    | ((with_reducible show wpList _ _ _ _ _ w0); refine alloc_row (w := w0) rfl gdt rfl (.agg (ga (List.replicate 16 0) (List.replicate 16 0) (List.replicate 16 0) false false 0 0)) 52 (fun _ => by kernel_rfl) (by kernel_rfl) ?_; intro w1 hR1 _ hG1 hz1; rw [hz0] at hR1 hz1 ⊢; have hA1 : GB w1 N gdt k t0 t1 a b m n := (VB.old hA0 hG1 (by simp)); have hM1 : Below N w w1 := (below_none (below_none (Below.refl _ _) (by rw [HN.out]; omega) hG0) (by omega) hG1); clear hA0 hG0 hG1; have cb := hA1.bad0 HK.out H0.out H1.out)
    | ((with_reducible show wpList _ _ _ _ _ w1); refine load_gd (w := w1) (by rfl) _ rfl N gdt k t0 t1 a b m n (by rfl) hA1 HK.out H0.out H1.out ?_)
    | ((with_reducible show wpList _ _ _ _ _ w1); refine store_vr (w := w1) rfl gdt _ _ rfl (N + 1) gdt 52 (gcs k t0 t1 a b m n) (by rfl) (by rfl) hR1 (gcs_one _ _ _ _ _ _ _) (gcs_len _ _ _ _ _ _ _ HK.out H0.out H1.out) gdt_i ?_; intro w9 hB9 hG9 hz9))
  refine bodyPost_ret (results_gd rfl _ _ (N + 1) gdt k t0 t1 a b m n rfl hB9 HK.out H0.out H1.out) rfl ⟨rfl, ?_⟩
  rw [HN.out]
  exact below_new hM1 (by omega) hG9 (by omega)
set_option maxHeartbeats 3200000 in
set_option maxRecDepth 100000 in
theorem Enter_yes0 (k t0 t1 : List UInt8) (a b : Bool) (m n : Int) (code : ByteArray) (w : World) (hk : k.length = 16) (h0 : t0.length = 16) (h1 : t1.length = 16) (hb0 : 0 ≤ m) (hb : m < 5) (hc1 : 4 ≤ code.size) (hc2 : code.size ≤ 16) (ht : ptag k 0 code = t0) :
    Calls Tryz.prog 31 #[.agg (ga k t0 t1 a b m n), .int .i64 0, .string code] w fun e w' => e = .returned (.tuple #[.agg (ga k t0 t1 true b 0 n), .nilIface]) ∧ Below w.heap.size w w' := by
  obtain ⟨N, hN⟩ : ∃ N, w.heap.size = N := ⟨_, rfl⟩
  have HN := Lib.hid hN
  have HK := Lib.hid hk
  have H0 := Lib.hid h0
  have H1 := Lib.hid h1
  clear hk h0 h1 hN
  have hb2 : ¬ 5 ≤ m := by omega
  have HC1 := Lib.hid hc1
  have HC2 := Lib.hid hc2
  have HTG := Lib.hid ht
  clear ht hc1 hc2
  go_enter Tryz.func31, Tryz.ntmps31
  go_wp2_with (first
    | ((with_reducible show wpList _ _ _ _ _ w); refine box_vb (w := w) rfl gdt _ rfl (gcs k t0 t1 a b m n) (by rfl) ?_; intro w0 hA0 hG0 hz0; rw [HN.out] at hA0 hz0 ⊢)
    | ((with_reducible show wpList _ _ _ _ _ w0); refine alloc_row (w := w0) rfl gdt rfl (.agg (ga (List.replicate 16 0) (List.replicate 16 0) (List.replicate 16 0) false false 0 0)) 52 (fun _ => by kernel_rfl) (by kernel_rfl) ?_; intro w1 hR1 _ hG1 hz1; rw [hz0] at hR1 hz1 ⊢; have hA1 : GB w1 N gdt k t0 t1 a b m n := (VB.old hA0 hG1 (by simp)); have hM1 : Below N w w1 := (below_none (below_none (Below.refl _ _) (by rw [HN.out]; omega) hG0) (by omega) hG1); clear hA0 hG0 hG1; have cb := hA1.bad0 HK.out H0.out H1.out)
    | ((with_reducible show wpList _ _ _ _ _ w1); refine load_rd (w := w1) rfl 53 _ rfl N 0 16 5 k (by rfl) hA1.key HK.out (by kernel_rfl) (by kernel_rfl) ?_)
    | (go_at_call 60; refine (tag_yes k 0 0 code w1 (by decide) HK.out HC1.out HC2.out).mono ?_; rintro e w2 ⟨rfl, hL2⟩; have hA2 := hA1.below hL2 (by omega); have hR2 := hR1.below hL2 (by omega); have hM2 := below_more hM1 hL2 (by omega); have hz2 := hL2.size; rw [hz1] at hz2; obtain ⟨G8, eG8⟩ : ∃ g, w2.heap.size = g := ⟨_, rfl⟩; clear hA1 hR1 cb hL2)
    | ((with_reducible show wpList _ _ _ _ _ w2); refine alloc_row (w := w2) rfl 53 rfl (.agg (Bs (List.replicate 16 0))) 16 (fun _ => by kernel_rfl) rfl ?_; intro w3 hR3 _ hG3 hz3; rw [eG8] at hR3 hz3 hz2 ⊢; have hA3 := hA2.old hG3 (by simp); have hS3 := hR2.old hG3 (by simp); have hM3 : Below N w w3 := (below_none hM2 (by omega) hG3); clear hA2 hR2 hG3)
    | ((with_reducible show wpList _ _ _ _ _ w3); refine store_blk (w := w3) rfl 53 _ _ rfl G8 53 16 (ptag k 0 code) (by rfl) (by rfl) hR3 (ptag_len _ _ _) (by kernel_rfl) ?_; intro w4 hB4 hG4 hz4; have hA4 := hA3.old hG4 (by simp; omega); have hS4 := hS3.old hG4 (by simp; omega); have hM4 : Below N w w4 := (below_new hM3 (by omega) hG4 (by omega)); clear hA3 hS3 hR3 hG4))
  rw [hz3] at hz4
  have HA4 := Lib.hid hA4
  have HS4 := Lib.hid hS4
  have HM4 := Lib.hid hM4
  have HB4 := Lib.hid hB4
  have HZ4 := Lib.hid hz4
  have HZ2 := Lib.hid hz2
  clear hA4 hS4 hM4 hB4 hz4 hz2 hz3 eG8
  have HSX := Lib.hid (HB4.out.slB (n := 16) (ptag_len k 0 code) (by decide))
  have HSY := Lib.hid (VB.rdS (cs := []) (HA4.out.tag0 HK.out) H0.out)
  obtain ⟨M1, eM1⟩ : ∃ M, w4.heap.size = M := ⟨_, rfl⟩
  have HSM := Lib.hid (show ∀ w9, Below M1 w4 w9 → M1 ≤ w9.heap.size from fun w9 h => by rw [← eM1]; exact h.size)
  have HUP := Lib.hid (show ∀ w9, Below M1 w4 w9 → Below w4.heap.size w4 w9 from fun w9 h => by rw [eM1]; exact h)
  refine wp_region_cls (fun w9 => ∃ x : BSub M1 w4, w9 = x.is) (by kernel_rfl) (by kernel_rfl) (bcls_of (by rw [← eM1]; exact below_drew _)) ?_
  repeat (go_big_quiet_step (fail))
  refine quiet_enter (by kernel_rfl) 61 #[.slice (some ⟨G8, 0, none⟩) 16 16, .slice (some ⟨N, 16, none⟩) 16 16] (.bool true) (fun _ => by kernel_rfl) (fun w9 h9x => by have h9 := of_bcls h9x; exact (Equal_any _ _ (ptag k 0 code) t0 w9 (HSX.out.below (HUP.out w9 h9)) (HSY.out.below (HUP.out w9 h9)) (by rw [ptag_len]; decide)).mono fun e w10 ⟨he, hd⟩ => ⟨by rw [he, HTG.out, beq_self_eq_true], bcls_of (below_more h9 hd.below0 (HSM.out w9 h9))⟩) ?_
  simp only [Act.put, List.setIfInBounds_toArray, List.set_cons_succ, List.set_cons_zero]
  repeat (go_big_quiet_step (fail))
  refine wpQuiet_nil ?_
  intro w5 h9x
  have hL : Below w4.heap.size w4 w5 := by rw [eM1]; exact of_bcls h9x
  clear h9x HUP HSM eM1
  have hA5 : GB w5 N gdt k t0 t1 a b m n := HA4.out.next hL
  have hS5 : Row w5 (N + 1) gdt 52 := HS4.out.below hL HS4.out.lt
  have hM5 : Below N w w5 := below_more HM4.out hL (by have := HZ4.out; have := HZ2.out; omega)
  have hz5 : G8 + 1 ≤ w5.heap.size := by have := hL.size; have := HZ4.out; omega
  have hz6 := HZ2.out
  clear hL
  have cb5 := hA5.bad0 HK.out H0.out H1.out
  go_wp2_with (first
    | ((with_reducible show wpList _ _ _ _ _ w5); refine store_vb1 (w := w5) rfl 4 _ _ rfl N 48 gdt (gcs k t0 t1 a b m n) (.bool true) (by rfl) (by rfl) rfl hA5 _ (gcs_tail k t0 t1 a b m n HK.out H0.out H1.out 0 _ rfl) (by kernel_rfl) ?_; intro w6 hA6 hG6 hz7; have hA6' : GB w6 N gdt k t0 t1 true b m n := (by have h := hA6; rw [show 48 = 48 + 0 from rfl, gcs_set _ _ _ _ _ _ _ HK.out H0.out H1.out] at h; exact h); have hS6 := hS5.old hG6 (by simp); have hM6 : Below N w w6 := (below_new hM5 (by omega) hG6 (Nat.le_refl _)); have cb6 := hA6'.bad0 HK.out H0.out H1.out; clear hA6 hA5 hS5 hM5 cb5 hG6)
    | ((with_reducible show wpList _ _ _ _ _ w6); refine store_vb1 (w := w6) rfl 3 _ _ rfl N 50 gdt (gcs k t0 t1 true b m n) (.int .i64 0) (by rfl) (by rfl) rfl hA6' _ (gcs_tail k t0 t1 _ _ m n HK.out H0.out H1.out 2 _ rfl) (by kernel_rfl) ?_; intro w7 hA7 hG7 hz8; have hA7' : GB w7 N gdt k t0 t1 true b 0 n := (by have h := hA7; rw [show 50 = 48 + 2 from rfl, gcs_set _ _ _ _ _ _ _ HK.out H0.out H1.out] at h; exact h); have hS7 := hS6.old hG7 (by simp); have hM7 : Below N w w7 := (below_new hM6 (by omega) hG7 (Nat.le_refl _)); clear hA7 hA6' hS6 hM6 hG7 cb6)
    | ((with_reducible show wpList _ _ _ _ _ w7); refine load_gd (w := w7) (by rfl) _ rfl N gdt k t0 t1 true b 0 n (by rfl) hA7' HK.out H0.out H1.out ?_)
    | ((with_reducible show wpList _ _ _ _ _ w7); refine store_vr (w := w7) rfl gdt _ _ rfl (N + 1) gdt 52 (gcs k t0 t1 true b 0 n) (by rfl) (by rfl) hS7 (gcs_one _ _ _ _ _ _ _) (gcs_len _ _ _ _ _ _ _ HK.out H0.out H1.out) gdt_i ?_; intro w9 hB9 hG9 hz9))
  refine bodyPost_ret (results_gd rfl _ _ (N + 1) gdt k t0 t1 true b 0 n rfl hB9 HK.out H0.out H1.out) rfl ⟨rfl, ?_⟩
  rw [HN.out]
  exact below_new hM7 (by omega) hG9 (by omega)
set_option maxHeartbeats 3200000 in
set_option maxRecDepth 100000 in
theorem Enter_other0 (k t0 t1 : List UInt8) (a b : Bool) (m n : Int) (code : ByteArray) (w : World) (hk : k.length = 16) (h0 : t0.length = 16) (h1 : t1.length = 16) (hb0 : 0 ≤ m) (hb : m < 5) (hc1 : 4 ≤ code.size) (hc2 : code.size ≤ 16) (ht : ptag k 0 code ≠ t0) :
    Calls Tryz.prog 31 #[.agg (ga k t0 t1 a b m n), .int .i64 0, .string code] w fun e w' => e = .returned (.tuple #[.agg (ga k t0 t1 false b (m + 1) n), .iface 91 (.int .i64 12)]) ∧ Below w.heap.size w w' := by
  obtain ⟨N, hN⟩ : ∃ N, w.heap.size = N := ⟨_, rfl⟩
  have HN := Lib.hid hN
  have HK := Lib.hid hk
  have H0 := Lib.hid h0
  have H1 := Lib.hid h1
  clear hk h0 h1 hN
  have hb2 : ¬ 5 ≤ m := by omega
  have HC1 := Lib.hid hc1
  have HC2 := Lib.hid hc2
  have HTG := Lib.hid (beq_eq_false_iff_ne.2 ht)
  clear ht hc1 hc2
  go_enter Tryz.func31, Tryz.ntmps31
  go_wp2_with (first
    | ((with_reducible show wpList _ _ _ _ _ w); refine box_vb (w := w) rfl gdt _ rfl (gcs k t0 t1 a b m n) (by rfl) ?_; intro w0 hA0 hG0 hz0; rw [HN.out] at hA0 hz0 ⊢)
    | ((with_reducible show wpList _ _ _ _ _ w0); refine alloc_row (w := w0) rfl gdt rfl (.agg (ga (List.replicate 16 0) (List.replicate 16 0) (List.replicate 16 0) false false 0 0)) 52 (fun _ => by kernel_rfl) (by kernel_rfl) ?_; intro w1 hR1 _ hG1 hz1; rw [hz0] at hR1 hz1 ⊢; have hA1 : GB w1 N gdt k t0 t1 a b m n := (VB.old hA0 hG1 (by simp)); have hM1 : Below N w w1 := (below_none (below_none (Below.refl _ _) (by rw [HN.out]; omega) hG0) (by omega) hG1); clear hA0 hG0 hG1; have cb := hA1.bad0 HK.out H0.out H1.out)
    | ((with_reducible show wpList _ _ _ _ _ w1); refine load_rd (w := w1) rfl 53 _ rfl N 0 16 5 k (by rfl) hA1.key HK.out (by kernel_rfl) (by kernel_rfl) ?_)
    | (go_at_call 60; refine (tag_yes k 0 0 code w1 (by decide) HK.out HC1.out HC2.out).mono ?_; rintro e w2 ⟨rfl, hL2⟩; have hA2 := hA1.below hL2 (by omega); have hR2 := hR1.below hL2 (by omega); have hM2 := below_more hM1 hL2 (by omega); have hz2 := hL2.size; rw [hz1] at hz2; obtain ⟨G8, eG8⟩ : ∃ g, w2.heap.size = g := ⟨_, rfl⟩; clear hA1 hR1 cb hL2)
    | ((with_reducible show wpList _ _ _ _ _ w2); refine alloc_row (w := w2) rfl 53 rfl (.agg (Bs (List.replicate 16 0))) 16 (fun _ => by kernel_rfl) rfl ?_; intro w3 hR3 _ hG3 hz3; rw [eG8] at hR3 hz3 hz2 ⊢; have hA3 := hA2.old hG3 (by simp); have hS3 := hR2.old hG3 (by simp); have hM3 : Below N w w3 := (below_none hM2 (by omega) hG3); clear hA2 hR2 hG3)
    | ((with_reducible show wpList _ _ _ _ _ w3); refine store_blk (w := w3) rfl 53 _ _ rfl G8 53 16 (ptag k 0 code) (by rfl) (by rfl) hR3 (ptag_len _ _ _) (by kernel_rfl) ?_; intro w4 hB4 hG4 hz4; have hA4 := hA3.old hG4 (by simp; omega); have hS4 := hS3.old hG4 (by simp; omega); have hM4 : Below N w w4 := (below_new hM3 (by omega) hG4 (by omega)); clear hA3 hS3 hR3 hG4))
  rw [hz3] at hz4
  have HA4 := Lib.hid hA4
  have HS4 := Lib.hid hS4
  have HM4 := Lib.hid hM4
  have HB4 := Lib.hid hB4
  have HZ4 := Lib.hid hz4
  have HZ2 := Lib.hid hz2
  clear hA4 hS4 hM4 hB4 hz4 hz2 hz3 eG8
  have HSX := Lib.hid (HB4.out.slB (n := 16) (ptag_len k 0 code) (by decide))
  have HSY := Lib.hid (VB.rdS (cs := []) (HA4.out.tag0 HK.out) H0.out)
  obtain ⟨M1, eM1⟩ : ∃ M, w4.heap.size = M := ⟨_, rfl⟩
  have HSM := Lib.hid (show ∀ w9, Below M1 w4 w9 → M1 ≤ w9.heap.size from fun w9 h => by rw [← eM1]; exact h.size)
  have HUP := Lib.hid (show ∀ w9, Below M1 w4 w9 → Below w4.heap.size w4 w9 from fun w9 h => by rw [eM1]; exact h)
  refine wp_region_cls (fun w9 => ∃ x : BSub M1 w4, w9 = x.is) (by kernel_rfl) (by kernel_rfl) (bcls_of (by rw [← eM1]; exact below_drew _)) ?_
  repeat (go_big_quiet_step (fail))
  refine quiet_enter (by kernel_rfl) 61 #[.slice (some ⟨G8, 0, none⟩) 16 16, .slice (some ⟨N, 16, none⟩) 16 16] (.bool false) (fun _ => by kernel_rfl) (fun w9 h9x => by have h9 := of_bcls h9x; exact (Equal_any _ _ (ptag k 0 code) t0 w9 (HSX.out.below (HUP.out w9 h9)) (HSY.out.below (HUP.out w9 h9)) (by rw [ptag_len]; decide)).mono fun e w10 ⟨he, hd⟩ => ⟨by rw [he, HTG.out], bcls_of (below_more h9 hd.below0 (HSM.out w9 h9))⟩) ?_
  simp only [Act.put, List.setIfInBounds_toArray, List.set_cons_succ, List.set_cons_zero]
  repeat (go_big_quiet_step (fail))
  refine wpQuiet_nil ?_
  intro w5 h9x
  have hL : Below w4.heap.size w4 w5 := by rw [eM1]; exact of_bcls h9x
  clear h9x HUP HSM eM1
  have hA5 : GB w5 N gdt k t0 t1 a b m n := HA4.out.next hL
  have hS5 : Row w5 (N + 1) gdt 52 := HS4.out.below hL HS4.out.lt
  have hM5 : Below N w w5 := below_more HM4.out hL (by have := HZ4.out; have := HZ2.out; omega)
  have hz5 : G8 + 1 ≤ w5.heap.size := by have := hL.size; have := HZ4.out; omega
  have hz6 := HZ2.out
  clear hL
  have cb5 := hA5.bad0 HK.out H0.out H1.out
  go_wp2_with (first
    | ((with_reducible show wpList _ _ _ _ _ w5); refine store_vb1 (w := w5) rfl 4 _ _ rfl N 48 gdt (gcs k t0 t1 a b m n) (.bool false) (by rfl) (by rfl) rfl hA5 _ (gcs_tail k t0 t1 a b m n HK.out H0.out H1.out 0 _ rfl) (by kernel_rfl) ?_; intro w6 hA6 hG6 hz7; have hA6' : GB w6 N gdt k t0 t1 false b m n := (by have h := hA6; rw [show 48 = 48 + 0 from rfl, gcs_set _ _ _ _ _ _ _ HK.out H0.out H1.out] at h; exact h); have hS6 := hS5.old hG6 (by simp); have hM6 : Below N w w6 := (below_new hM5 (by omega) hG6 (Nat.le_refl _)); have cb6 := hA6'.bad0 HK.out H0.out H1.out; clear hA6 hA5 hS5 hM5 cb5 hG6)
    | ((with_reducible show wpList _ _ _ _ _ w6); refine store_vb1 (w := w6) rfl 3 _ _ rfl N 50 gdt (gcs k t0 t1 false b m n) (.int .i64 (m + 1)) (by rfl) (by rfl) rfl hA6' _ (gcs_tail k t0 t1 _ _ m n HK.out H0.out H1.out 2 _ rfl) (by kernel_rfl) ?_; intro w7 hA7 hG7 hz8; have hA7' : GB w7 N gdt k t0 t1 false b (m + 1) n := (by have h := hA7; rw [show 50 = 48 + 2 from rfl, gcs_set _ _ _ _ _ _ _ HK.out H0.out H1.out] at h; exact h); have hS7 := hS6.old hG7 (by simp); have hM7 : Below N w w7 := (below_new hM6 (by omega) hG7 (Nat.le_refl _)); clear hA7 hA6' hS6 hM6 hG7 cb6)
    | ((with_reducible show wpList _ _ _ _ _ w7); refine load_gd (w := w7) (by rfl) _ rfl N gdt k t0 t1 false b (m + 1) n (by rfl) hA7' HK.out H0.out H1.out ?_)
    | ((with_reducible show wpList _ _ _ _ _ w7); refine store_vr (w := w7) rfl gdt _ _ rfl (N + 1) gdt 52 (gcs k t0 t1 false b (m + 1) n) (by rfl) (by rfl) hS7 (gcs_one _ _ _ _ _ _ _) (gcs_len _ _ _ _ _ _ _ HK.out H0.out H1.out) gdt_i ?_; intro w9 hB9 hG9 hz9))
  refine bodyPost_ret (results_gd rfl _ _ (N + 1) gdt k t0 t1 false b (m + 1) n rfl hB9 HK.out H0.out H1.out) rfl ⟨rfl, ?_⟩
  rw [HN.out]
  exact below_new hM7 (by omega) hG9 (by omega)
set_option maxHeartbeats 3200000 in
set_option maxRecDepth 100000 in
theorem Enter_none0 (k t0 t1 : List UInt8) (a b : Bool) (m n : Int) (code : ByteArray) (w : World) (hk : k.length = 16) (h0 : t0.length = 16) (h1 : t1.length = 16) (hb0 : 0 ≤ m) (hb : m < 5) (hcs : code.size ≤ 140737488351232) (hc : code.size < 4 ∨ 16 < code.size) :
    Calls Tryz.prog 31 #[.agg (ga k t0 t1 a b m n), .int .i64 0, .string code] w fun e w' => e = .returned (.tuple #[.agg (ga k t0 t1 false b (m + 1) n), .iface 91 (.int .i64 12)]) ∧ Below w.heap.size w w' := by
  obtain ⟨N, hN⟩ : ∃ N, w.heap.size = N := ⟨_, rfl⟩
  have HN := Lib.hid hN
  have HK := Lib.hid hk
  have H0 := Lib.hid h0
  have H1 := Lib.hid h1
  clear hk h0 h1 hN
  have hb2 : ¬ 5 ≤ m := by omega
  have HC1 := Lib.hid hcs
  have HC2 := Lib.hid hc
  clear hc
  go_enter Tryz.func31, Tryz.ntmps31
  go_wp2_with (first
    | ((with_reducible show wpList _ _ _ _ _ w); refine box_vb (w := w) rfl gdt _ rfl (gcs k t0 t1 a b m n) (by rfl) ?_; intro w0 hA0 hG0 hz0; rw [HN.out] at hA0 hz0 ⊢)
    | ((with_reducible show wpList _ _ _ _ _ w0); refine alloc_row (w := w0) rfl gdt rfl (.agg (ga (List.replicate 16 0) (List.replicate 16 0) (List.replicate 16 0) false false 0 0)) 52 (fun _ => by kernel_rfl) (by kernel_rfl) ?_; intro w1 hR1 _ hG1 hz1; rw [hz0] at hR1 hz1 ⊢; have hA1 : GB w1 N gdt k t0 t1 a b m n := (VB.old hA0 hG1 (by simp)); have hM1 : Below N w w1 := (below_none (below_none (Below.refl _ _) (by rw [HN.out]; omega) hG0) (by omega) hG1); clear hA0 hG0 hG1; have cb := hA1.bad0 HK.out H0.out H1.out)
    | ((with_reducible show wpList _ _ _ _ _ w1); refine load_rd (w := w1) rfl 53 _ rfl N 0 16 5 k (by rfl) hA1.key HK.out (by kernel_rfl) (by kernel_rfl) ?_)
    | (go_at_call 60; refine (tag_no k 0 code w1 HK.out HC1.out HC2.out).mono ?_; rintro e w2 ⟨rfl, hL2⟩; have hA2 := hA1.below hL2 (by omega); have hR2 := hR1.below hL2 (by omega); have hM2 := below_more hM1 hL2 (by omega); have hz2 := hL2.size; rw [hz1] at hz2; obtain ⟨G8, eG8⟩ : ∃ g, w2.heap.size = g := ⟨_, rfl⟩; clear hA1 hR1 cb hL2)
    | ((with_reducible show wpList _ _ _ _ _ w2); refine alloc_row (w := w2) rfl 53 rfl (.agg (Bs (List.replicate 16 0))) 16 (fun _ => by kernel_rfl) rfl ?_; intro w3 hR3 _ hG3 hz3; rw [eG8] at hR3 hz3 hz2 ⊢; have hA3 := hA2.old hG3 (by simp); have hS3 := hR2.old hG3 (by simp); have hM3 : Below N w w3 := (below_none hM2 (by omega) hG3); clear hA2 hR2 hG3)
    | ((with_reducible show wpList _ _ _ _ _ w3); refine store_blk (w := w3) rfl 53 _ _ rfl G8 53 16 (List.replicate 16 0) (by rfl) (by rfl) hR3 rfl (by kernel_rfl) ?_; intro w4 hB4 hG4 hz4; have hA4 := hA3.old hG4 (by simp; omega); have hS4 := hS3.old hG4 (by simp; omega); have hM4 : Below N w w4 := (below_new hM3 (by omega) hG4 (by omega)); clear hA3 hS3 hR3 hG4))
  rw [hz3] at hz4
  have HA4 := Lib.hid hA4
  have HS4 := Lib.hid hS4
  have HM4 := Lib.hid hM4
  have HB4 := Lib.hid hB4
  have HZ4 := Lib.hid hz4
  have HZ2 := Lib.hid hz2
  clear hA4 hS4 hM4 hB4 hz4 hz2 hz3 eG8
  go_quiet (fail)
  have hL : Below w4.heap.size w4 (w4.drewN nq) := Drawn.below0 ⟨nq, rfl⟩
  generalize w4.drewN nq = w5 at hL ⊢
  have hA5 : GB w5 N gdt k t0 t1 a b m n := HA4.out.next hL
  have hS5 : Row w5 (N + 1) gdt 52 := HS4.out.below hL HS4.out.lt
  have hM5 : Below N w w5 := below_more HM4.out hL (by have := HZ4.out; have := HZ2.out; omega)
  have hz5 : G8 + 1 ≤ w5.heap.size := by have := hL.size; have := HZ4.out; omega
  have hz6 := HZ2.out
  clear hL
  have cb5 := hA5.bad0 HK.out H0.out H1.out
  go_wp2_with (first
    | ((with_reducible show wpList _ _ _ _ _ w5); refine store_vb1 (w := w5) rfl 4 _ _ rfl N 48 gdt (gcs k t0 t1 a b m n) (.bool false) (by rfl) (by rfl) rfl hA5 _ (gcs_tail k t0 t1 a b m n HK.out H0.out H1.out 0 _ rfl) (by kernel_rfl) ?_; intro w6 hA6 hG6 hz7; have hA6' : GB w6 N gdt k t0 t1 false b m n := (by have h := hA6; rw [show 48 = 48 + 0 from rfl, gcs_set _ _ _ _ _ _ _ HK.out H0.out H1.out] at h; exact h); have hS6 := hS5.old hG6 (by simp); have hM6 : Below N w w6 := (below_new hM5 (by omega) hG6 (Nat.le_refl _)); have cb6 := hA6'.bad0 HK.out H0.out H1.out; clear hA6 hA5 hS5 hM5 cb5 hG6)
    | ((with_reducible show wpList _ _ _ _ _ w6); refine store_vb1 (w := w6) rfl 3 _ _ rfl N 50 gdt (gcs k t0 t1 false b m n) (.int .i64 (m + 1)) (by rfl) (by rfl) rfl hA6' _ (gcs_tail k t0 t1 _ _ m n HK.out H0.out H1.out 2 _ rfl) (by kernel_rfl) ?_; intro w7 hA7 hG7 hz8; have hA7' : GB w7 N gdt k t0 t1 false b (m + 1) n := (by have h := hA7; rw [show 50 = 48 + 2 from rfl, gcs_set _ _ _ _ _ _ _ HK.out H0.out H1.out] at h; exact h); have hS7 := hS6.old hG7 (by simp); have hM7 : Below N w w7 := (below_new hM6 (by omega) hG7 (Nat.le_refl _)); clear hA7 hA6' hS6 hM6 hG7 cb6)
    | ((with_reducible show wpList _ _ _ _ _ w7); refine load_gd (w := w7) (by rfl) _ rfl N gdt k t0 t1 false b (m + 1) n (by rfl) hA7' HK.out H0.out H1.out ?_)
    | ((with_reducible show wpList _ _ _ _ _ w7); refine store_vr (w := w7) rfl gdt _ _ rfl (N + 1) gdt 52 (gcs k t0 t1 false b (m + 1) n) (by rfl) (by rfl) hS7 (gcs_one _ _ _ _ _ _ _) (gcs_len _ _ _ _ _ _ _ HK.out H0.out H1.out) gdt_i ?_; intro w9 hB9 hG9 hz9))
  refine bodyPost_ret (results_gd rfl _ _ (N + 1) gdt k t0 t1 false b (m + 1) n rfl hB9 HK.out H0.out H1.out) rfl ⟨rfl, ?_⟩
  rw [HN.out]
  exact below_new hM7 (by omega) hG9 (by omega)
set_option maxHeartbeats 3200000 in
set_option maxRecDepth 100000 in
theorem Enter_locked1 (k t0 t1 : List UInt8) (a b : Bool) (m n : Int) (code : ByteArray) (w : World) (hk : k.length = 16) (h0 : t0.length = 16) (h1 : t1.length = 16) (hb : 5 ≤ n) :
    Calls Tryz.prog 31 #[.agg (ga k t0 t1 a b m n), .int .i64 1, .string code] w fun e w' => e = .returned (.tuple #[.agg (ga k t0 t1 a b m n), .iface 91 (.int .i64 9)]) ∧ Below w.heap.size w w' := by
  obtain ⟨N, hN⟩ : ∃ N, w.heap.size = N := ⟨_, rfl⟩
  have HN := Lib.hid hN
  have HK := Lib.hid hk
  have H0 := Lib.hid h0
  have H1 := Lib.hid h1
  clear hk h0 h1 hN
  go_enter Tryz.func31, Tryz.ntmps31
  go_wp2_with (first
    | ((with_reducible show wpList _ _ _ _ _ w); refine box_vb (w := w) rfl gdt _ rfl (gcs k t0 t1 a b m n) (by rfl) ?_; intro w0 hA0 hG0 hz0; rw [HN.out] at hA0 hz0 ⊢)
    | ((with_reducible show wpList _ _ _ _ _ w0); refine alloc_row (w := w0) rfl gdt rfl (.agg (ga (List.replicate 16 0) (List.replicate 16 0) (List.replicate 16 0) false false 0 0)) 52 (fun _ => by kernel_rfl) (by kernel_rfl) ?_; intro w1 hR1 _ hG1 hz1; rw [hz0] at hR1 hz1 ⊢; have hA1 : GB w1 N gdt k t0 t1 a b m n := (VB.old hA0 hG1 (by simp)); have hM1 : Below N w w1 := (below_none (below_none (Below.refl _ _) (by rw [HN.out]; omega) hG0) (by omega) hG1); clear hA0 hG0 hG1; have cb := hA1.bad1 HK.out H0.out H1.out)
    | ((with_reducible show wpList _ _ _ _ _ w1); refine load_gd (w := w1) (by rfl) _ rfl N gdt k t0 t1 a b m n (by rfl) hA1 HK.out H0.out H1.out ?_)
    | ((with_reducible show wpList _ _ _ _ _ w1); refine store_vr (w := w1) rfl gdt _ _ rfl (N + 1) gdt 52 (gcs k t0 t1 a b m n) (by rfl) (by rfl) hR1 (gcs_one _ _ _ _ _ _ _) (gcs_len _ _ _ _ _ _ _ HK.out H0.out H1.out) gdt_i ?_; intro w9 hB9 hG9 hz9))
  refine bodyPost_ret (results_gd rfl _ _ (N + 1) gdt k t0 t1 a b m n rfl hB9 HK.out H0.out H1.out) rfl ⟨rfl, ?_⟩
  rw [HN.out]
  exact below_new hM1 (by omega) hG9 (by omega)
set_option maxHeartbeats 3200000 in
set_option maxRecDepth 100000 in
theorem Enter_yes1 (k t0 t1 : List UInt8) (a b : Bool) (m n : Int) (code : ByteArray) (w : World) (hk : k.length = 16) (h0 : t0.length = 16) (h1 : t1.length = 16) (hb0 : 0 ≤ n) (hb : n < 5) (hc1 : 4 ≤ code.size) (hc2 : code.size ≤ 16) (ht : ptag k 1 code = t1) :
    Calls Tryz.prog 31 #[.agg (ga k t0 t1 a b m n), .int .i64 1, .string code] w fun e w' => e = .returned (.tuple #[.agg (ga k t0 t1 a true m 0), .nilIface]) ∧ Below w.heap.size w w' := by
  obtain ⟨N, hN⟩ : ∃ N, w.heap.size = N := ⟨_, rfl⟩
  have HN := Lib.hid hN
  have HK := Lib.hid hk
  have H0 := Lib.hid h0
  have H1 := Lib.hid h1
  clear hk h0 h1 hN
  have hb2 : ¬ 5 ≤ n := by omega
  have HC1 := Lib.hid hc1
  have HC2 := Lib.hid hc2
  have HTG := Lib.hid ht
  clear ht hc1 hc2
  go_enter Tryz.func31, Tryz.ntmps31
  go_wp2_with (first
    | ((with_reducible show wpList _ _ _ _ _ w); refine box_vb (w := w) rfl gdt _ rfl (gcs k t0 t1 a b m n) (by rfl) ?_; intro w0 hA0 hG0 hz0; rw [HN.out] at hA0 hz0 ⊢)
    | ((with_reducible show wpList _ _ _ _ _ w0); refine alloc_row (w := w0) rfl gdt rfl (.agg (ga (List.replicate 16 0) (List.replicate 16 0) (List.replicate 16 0) false false 0 0)) 52 (fun _ => by kernel_rfl) (by kernel_rfl) ?_; intro w1 hR1 _ hG1 hz1; rw [hz0] at hR1 hz1 ⊢; have hA1 : GB w1 N gdt k t0 t1 a b m n := (VB.old hA0 hG1 (by simp)); have hM1 : Below N w w1 := (below_none (below_none (Below.refl _ _) (by rw [HN.out]; omega) hG0) (by omega) hG1); clear hA0 hG0 hG1; have cb := hA1.bad1 HK.out H0.out H1.out)
    | ((with_reducible show wpList _ _ _ _ _ w1); refine load_rd (w := w1) rfl 53 _ rfl N 0 16 5 k (by rfl) hA1.key HK.out (by kernel_rfl) (by kernel_rfl) ?_)
    | (go_at_call 60; refine (tag_yes k 1 1 code w1 (by decide) HK.out HC1.out HC2.out).mono ?_; rintro e w2 ⟨rfl, hL2⟩; have hA2 := hA1.below hL2 (by omega); have hR2 := hR1.below hL2 (by omega); have hM2 := below_more hM1 hL2 (by omega); have hz2 := hL2.size; rw [hz1] at hz2; obtain ⟨G8, eG8⟩ : ∃ g, w2.heap.size = g := ⟨_, rfl⟩; clear hA1 hR1 cb hL2)
    | ((with_reducible show wpList _ _ _ _ _ w2); refine alloc_row (w := w2) rfl 53 rfl (.agg (Bs (List.replicate 16 0))) 16 (fun _ => by kernel_rfl) rfl ?_; intro w3 hR3 _ hG3 hz3; rw [eG8] at hR3 hz3 hz2 ⊢; have hA3 := hA2.old hG3 (by simp); have hS3 := hR2.old hG3 (by simp); have hM3 : Below N w w3 := (below_none hM2 (by omega) hG3); clear hA2 hR2 hG3)
    | ((with_reducible show wpList _ _ _ _ _ w3); refine store_blk (w := w3) rfl 53 _ _ rfl G8 53 16 (ptag k 1 code) (by rfl) (by rfl) hR3 (ptag_len _ _ _) (by kernel_rfl) ?_; intro w4 hB4 hG4 hz4; have hA4 := hA3.old hG4 (by simp; omega); have hS4 := hS3.old hG4 (by simp; omega); have hM4 : Below N w w4 := (below_new hM3 (by omega) hG4 (by omega)); clear hA3 hS3 hR3 hG4))
  rw [hz3] at hz4
  have HA4 := Lib.hid hA4
  have HS4 := Lib.hid hS4
  have HM4 := Lib.hid hM4
  have HB4 := Lib.hid hB4
  have HZ4 := Lib.hid hz4
  have HZ2 := Lib.hid hz2
  clear hA4 hS4 hM4 hB4 hz4 hz2 hz3 eG8
  have HSX := Lib.hid (HB4.out.slB (n := 16) (ptag_len k 1 code) (by decide))
  have HSY := Lib.hid (VB.rdS (cs := []) (HA4.out.tag1 HK.out H0.out) H1.out)
  obtain ⟨M1, eM1⟩ : ∃ M, w4.heap.size = M := ⟨_, rfl⟩
  have HSM := Lib.hid (show ∀ w9, Below M1 w4 w9 → M1 ≤ w9.heap.size from fun w9 h => by rw [← eM1]; exact h.size)
  have HUP := Lib.hid (show ∀ w9, Below M1 w4 w9 → Below w4.heap.size w4 w9 from fun w9 h => by rw [eM1]; exact h)
  refine wp_region_cls (fun w9 => ∃ x : BSub M1 w4, w9 = x.is) (by kernel_rfl) (by kernel_rfl) (bcls_of (by rw [← eM1]; exact below_drew _)) ?_
  repeat (go_big_quiet_step (fail))
  refine quiet_enter (by kernel_rfl) 61 #[.slice (some ⟨G8, 0, none⟩) 16 16, .slice (some ⟨N, 32, none⟩) 16 16] (.bool true) (fun _ => by kernel_rfl) (fun w9 h9x => by have h9 := of_bcls h9x; exact (Equal_any _ _ (ptag k 1 code) t1 w9 (HSX.out.below (HUP.out w9 h9)) (HSY.out.below (HUP.out w9 h9)) (by rw [ptag_len]; decide)).mono fun e w10 ⟨he, hd⟩ => ⟨by rw [he, HTG.out, beq_self_eq_true], bcls_of (below_more h9 hd.below0 (HSM.out w9 h9))⟩) ?_
  simp only [Act.put, List.setIfInBounds_toArray, List.set_cons_succ, List.set_cons_zero]
  repeat (go_big_quiet_step (fail))
  refine wpQuiet_nil ?_
  intro w5 h9x
  have hL : Below w4.heap.size w4 w5 := by rw [eM1]; exact of_bcls h9x
  clear h9x HUP HSM eM1
  have hA5 : GB w5 N gdt k t0 t1 a b m n := HA4.out.next hL
  have hS5 : Row w5 (N + 1) gdt 52 := HS4.out.below hL HS4.out.lt
  have hM5 : Below N w w5 := below_more HM4.out hL (by have := HZ4.out; have := HZ2.out; omega)
  have hz5 : G8 + 1 ≤ w5.heap.size := by have := hL.size; have := HZ4.out; omega
  have hz6 := HZ2.out
  clear hL
  have cb5 := hA5.bad1 HK.out H0.out H1.out
  go_wp2_with (first
    | ((with_reducible show wpList _ _ _ _ _ w5); refine store_vb1 (w := w5) rfl 4 _ _ rfl N 49 gdt (gcs k t0 t1 a b m n) (.bool true) (by rfl) (by rfl) rfl hA5 _ (gcs_tail k t0 t1 a b m n HK.out H0.out H1.out 1 _ rfl) (by kernel_rfl) ?_; intro w6 hA6 hG6 hz7; have hA6' : GB w6 N gdt k t0 t1 a true m n := (by have h := hA6; rw [show 49 = 48 + 1 from rfl, gcs_set _ _ _ _ _ _ _ HK.out H0.out H1.out] at h; exact h); have hS6 := hS5.old hG6 (by simp); have hM6 : Below N w w6 := (below_new hM5 (by omega) hG6 (Nat.le_refl _)); have cb6 := hA6'.bad1 HK.out H0.out H1.out; clear hA6 hA5 hS5 hM5 cb5 hG6)
    | ((with_reducible show wpList _ _ _ _ _ w6); refine store_vb1 (w := w6) rfl 3 _ _ rfl N 51 gdt (gcs k t0 t1 a true m n) (.int .i64 0) (by rfl) (by rfl) rfl hA6' _ (gcs_tail k t0 t1 _ _ m n HK.out H0.out H1.out 3 _ rfl) (by kernel_rfl) ?_; intro w7 hA7 hG7 hz8; have hA7' : GB w7 N gdt k t0 t1 a true m 0 := (by have h := hA7; rw [show 51 = 48 + 3 from rfl, gcs_set _ _ _ _ _ _ _ HK.out H0.out H1.out] at h; exact h); have hS7 := hS6.old hG7 (by simp); have hM7 : Below N w w7 := (below_new hM6 (by omega) hG7 (Nat.le_refl _)); clear hA7 hA6' hS6 hM6 hG7 cb6)
    | ((with_reducible show wpList _ _ _ _ _ w7); refine load_gd (w := w7) (by rfl) _ rfl N gdt k t0 t1 a true m 0 (by rfl) hA7' HK.out H0.out H1.out ?_)
    | ((with_reducible show wpList _ _ _ _ _ w7); refine store_vr (w := w7) rfl gdt _ _ rfl (N + 1) gdt 52 (gcs k t0 t1 a true m 0) (by rfl) (by rfl) hS7 (gcs_one _ _ _ _ _ _ _) (gcs_len _ _ _ _ _ _ _ HK.out H0.out H1.out) gdt_i ?_; intro w9 hB9 hG9 hz9))
  refine bodyPost_ret (results_gd rfl _ _ (N + 1) gdt k t0 t1 a true m 0 rfl hB9 HK.out H0.out H1.out) rfl ⟨rfl, ?_⟩
  rw [HN.out]
  exact below_new hM7 (by omega) hG9 (by omega)
set_option maxHeartbeats 3200000 in
set_option maxRecDepth 100000 in
theorem Enter_other1 (k t0 t1 : List UInt8) (a b : Bool) (m n : Int) (code : ByteArray) (w : World) (hk : k.length = 16) (h0 : t0.length = 16) (h1 : t1.length = 16) (hb0 : 0 ≤ n) (hb : n < 5) (hc1 : 4 ≤ code.size) (hc2 : code.size ≤ 16) (ht : ptag k 1 code ≠ t1) :
    Calls Tryz.prog 31 #[.agg (ga k t0 t1 a b m n), .int .i64 1, .string code] w fun e w' => e = .returned (.tuple #[.agg (ga k t0 t1 a false m (n + 1)), .iface 91 (.int .i64 12)]) ∧ Below w.heap.size w w' := by
  obtain ⟨N, hN⟩ : ∃ N, w.heap.size = N := ⟨_, rfl⟩
  have HN := Lib.hid hN
  have HK := Lib.hid hk
  have H0 := Lib.hid h0
  have H1 := Lib.hid h1
  clear hk h0 h1 hN
  have hb2 : ¬ 5 ≤ n := by omega
  have HC1 := Lib.hid hc1
  have HC2 := Lib.hid hc2
  have HTG := Lib.hid (beq_eq_false_iff_ne.2 ht)
  clear ht hc1 hc2
  go_enter Tryz.func31, Tryz.ntmps31
  go_wp2_with (first
    | ((with_reducible show wpList _ _ _ _ _ w); refine box_vb (w := w) rfl gdt _ rfl (gcs k t0 t1 a b m n) (by rfl) ?_; intro w0 hA0 hG0 hz0; rw [HN.out] at hA0 hz0 ⊢)
    | ((with_reducible show wpList _ _ _ _ _ w0); refine alloc_row (w := w0) rfl gdt rfl (.agg (ga (List.replicate 16 0) (List.replicate 16 0) (List.replicate 16 0) false false 0 0)) 52 (fun _ => by kernel_rfl) (by kernel_rfl) ?_; intro w1 hR1 _ hG1 hz1; rw [hz0] at hR1 hz1 ⊢; have hA1 : GB w1 N gdt k t0 t1 a b m n := (VB.old hA0 hG1 (by simp)); have hM1 : Below N w w1 := (below_none (below_none (Below.refl _ _) (by rw [HN.out]; omega) hG0) (by omega) hG1); clear hA0 hG0 hG1; have cb := hA1.bad1 HK.out H0.out H1.out)
    | ((with_reducible show wpList _ _ _ _ _ w1); refine load_rd (w := w1) rfl 53 _ rfl N 0 16 5 k (by rfl) hA1.key HK.out (by kernel_rfl) (by kernel_rfl) ?_)
    | (go_at_call 60; refine (tag_yes k 1 1 code w1 (by decide) HK.out HC1.out HC2.out).mono ?_; rintro e w2 ⟨rfl, hL2⟩; have hA2 := hA1.below hL2 (by omega); have hR2 := hR1.below hL2 (by omega); have hM2 := below_more hM1 hL2 (by omega); have hz2 := hL2.size; rw [hz1] at hz2; obtain ⟨G8, eG8⟩ : ∃ g, w2.heap.size = g := ⟨_, rfl⟩; clear hA1 hR1 cb hL2)
    | ((with_reducible show wpList _ _ _ _ _ w2); refine alloc_row (w := w2) rfl 53 rfl (.agg (Bs (List.replicate 16 0))) 16 (fun _ => by kernel_rfl) rfl ?_; intro w3 hR3 _ hG3 hz3; rw [eG8] at hR3 hz3 hz2 ⊢; have hA3 := hA2.old hG3 (by simp); have hS3 := hR2.old hG3 (by simp); have hM3 : Below N w w3 := (below_none hM2 (by omega) hG3); clear hA2 hR2 hG3)
    | ((with_reducible show wpList _ _ _ _ _ w3); refine store_blk (w := w3) rfl 53 _ _ rfl G8 53 16 (ptag k 1 code) (by rfl) (by rfl) hR3 (ptag_len _ _ _) (by kernel_rfl) ?_; intro w4 hB4 hG4 hz4; have hA4 := hA3.old hG4 (by simp; omega); have hS4 := hS3.old hG4 (by simp; omega); have hM4 : Below N w w4 := (below_new hM3 (by omega) hG4 (by omega)); clear hA3 hS3 hR3 hG4))
  rw [hz3] at hz4
  have HA4 := Lib.hid hA4
  have HS4 := Lib.hid hS4
  have HM4 := Lib.hid hM4
  have HB4 := Lib.hid hB4
  have HZ4 := Lib.hid hz4
  have HZ2 := Lib.hid hz2
  clear hA4 hS4 hM4 hB4 hz4 hz2 hz3 eG8
  have HSX := Lib.hid (HB4.out.slB (n := 16) (ptag_len k 1 code) (by decide))
  have HSY := Lib.hid (VB.rdS (cs := []) (HA4.out.tag1 HK.out H0.out) H1.out)
  obtain ⟨M1, eM1⟩ : ∃ M, w4.heap.size = M := ⟨_, rfl⟩
  have HSM := Lib.hid (show ∀ w9, Below M1 w4 w9 → M1 ≤ w9.heap.size from fun w9 h => by rw [← eM1]; exact h.size)
  have HUP := Lib.hid (show ∀ w9, Below M1 w4 w9 → Below w4.heap.size w4 w9 from fun w9 h => by rw [eM1]; exact h)
  refine wp_region_cls (fun w9 => ∃ x : BSub M1 w4, w9 = x.is) (by kernel_rfl) (by kernel_rfl) (bcls_of (by rw [← eM1]; exact below_drew _)) ?_
  repeat (go_big_quiet_step (fail))
  refine quiet_enter (by kernel_rfl) 61 #[.slice (some ⟨G8, 0, none⟩) 16 16, .slice (some ⟨N, 32, none⟩) 16 16] (.bool false) (fun _ => by kernel_rfl) (fun w9 h9x => by have h9 := of_bcls h9x; exact (Equal_any _ _ (ptag k 1 code) t1 w9 (HSX.out.below (HUP.out w9 h9)) (HSY.out.below (HUP.out w9 h9)) (by rw [ptag_len]; decide)).mono fun e w10 ⟨he, hd⟩ => ⟨by rw [he, HTG.out], bcls_of (below_more h9 hd.below0 (HSM.out w9 h9))⟩) ?_
  simp only [Act.put, List.setIfInBounds_toArray, List.set_cons_succ, List.set_cons_zero]
  repeat (go_big_quiet_step (fail))
  refine wpQuiet_nil ?_
  intro w5 h9x
  have hL : Below w4.heap.size w4 w5 := by rw [eM1]; exact of_bcls h9x
  clear h9x HUP HSM eM1
  have hA5 : GB w5 N gdt k t0 t1 a b m n := HA4.out.next hL
  have hS5 : Row w5 (N + 1) gdt 52 := HS4.out.below hL HS4.out.lt
  have hM5 : Below N w w5 := below_more HM4.out hL (by have := HZ4.out; have := HZ2.out; omega)
  have hz5 : G8 + 1 ≤ w5.heap.size := by have := hL.size; have := HZ4.out; omega
  have hz6 := HZ2.out
  clear hL
  have cb5 := hA5.bad1 HK.out H0.out H1.out
  go_wp2_with (first
    | ((with_reducible show wpList _ _ _ _ _ w5); refine store_vb1 (w := w5) rfl 4 _ _ rfl N 49 gdt (gcs k t0 t1 a b m n) (.bool false) (by rfl) (by rfl) rfl hA5 _ (gcs_tail k t0 t1 a b m n HK.out H0.out H1.out 1 _ rfl) (by kernel_rfl) ?_; intro w6 hA6 hG6 hz7; have hA6' : GB w6 N gdt k t0 t1 a false m n := (by have h := hA6; rw [show 49 = 48 + 1 from rfl, gcs_set _ _ _ _ _ _ _ HK.out H0.out H1.out] at h; exact h); have hS6 := hS5.old hG6 (by simp); have hM6 : Below N w w6 := (below_new hM5 (by omega) hG6 (Nat.le_refl _)); have cb6 := hA6'.bad1 HK.out H0.out H1.out; clear hA6 hA5 hS5 hM5 cb5 hG6)
    | ((with_reducible show wpList _ _ _ _ _ w6); refine store_vb1 (w := w6) rfl 3 _ _ rfl N 51 gdt (gcs k t0 t1 a false m n) (.int .i64 (n + 1)) (by rfl) (by rfl) rfl hA6' _ (gcs_tail k t0 t1 _ _ m n HK.out H0.out H1.out 3 _ rfl) (by kernel_rfl) ?_; intro w7 hA7 hG7 hz8; have hA7' : GB w7 N gdt k t0 t1 a false m (n + 1) := (by have h := hA7; rw [show 51 = 48 + 3 from rfl, gcs_set _ _ _ _ _ _ _ HK.out H0.out H1.out] at h; exact h); have hS7 := hS6.old hG7 (by simp); have hM7 : Below N w w7 := (below_new hM6 (by omega) hG7 (Nat.le_refl _)); clear hA7 hA6' hS6 hM6 hG7 cb6)
    | ((with_reducible show wpList _ _ _ _ _ w7); refine load_gd (w := w7) (by rfl) _ rfl N gdt k t0 t1 a false m (n + 1) (by rfl) hA7' HK.out H0.out H1.out ?_)
    | ((with_reducible show wpList _ _ _ _ _ w7); refine store_vr (w := w7) rfl gdt _ _ rfl (N + 1) gdt 52 (gcs k t0 t1 a false m (n + 1)) (by rfl) (by rfl) hS7 (gcs_one _ _ _ _ _ _ _) (gcs_len _ _ _ _ _ _ _ HK.out H0.out H1.out) gdt_i ?_; intro w9 hB9 hG9 hz9))
  refine bodyPost_ret (results_gd rfl _ _ (N + 1) gdt k t0 t1 a false m (n + 1) rfl hB9 HK.out H0.out H1.out) rfl ⟨rfl, ?_⟩
  rw [HN.out]
  exact below_new hM7 (by omega) hG9 (by omega)
set_option maxHeartbeats 3200000 in
set_option maxRecDepth 100000 in
theorem Enter_none1 (k t0 t1 : List UInt8) (a b : Bool) (m n : Int) (code : ByteArray) (w : World) (hk : k.length = 16) (h0 : t0.length = 16) (h1 : t1.length = 16) (hb0 : 0 ≤ n) (hb : n < 5) (hcs : code.size ≤ 140737488351232) (hc : code.size < 4 ∨ 16 < code.size) :
    Calls Tryz.prog 31 #[.agg (ga k t0 t1 a b m n), .int .i64 1, .string code] w fun e w' => e = .returned (.tuple #[.agg (ga k t0 t1 a false m (n + 1)), .iface 91 (.int .i64 12)]) ∧ Below w.heap.size w w' := by
  obtain ⟨N, hN⟩ : ∃ N, w.heap.size = N := ⟨_, rfl⟩
  have HN := Lib.hid hN
  have HK := Lib.hid hk
  have H0 := Lib.hid h0
  have H1 := Lib.hid h1
  clear hk h0 h1 hN
  have hb2 : ¬ 5 ≤ n := by omega
  have HC1 := Lib.hid hcs
  have HC2 := Lib.hid hc
  clear hc
  go_enter Tryz.func31, Tryz.ntmps31
  go_wp2_with (first
    | ((with_reducible show wpList _ _ _ _ _ w); refine box_vb (w := w) rfl gdt _ rfl (gcs k t0 t1 a b m n) (by rfl) ?_; intro w0 hA0 hG0 hz0; rw [HN.out] at hA0 hz0 ⊢)
    | ((with_reducible show wpList _ _ _ _ _ w0); refine alloc_row (w := w0) rfl gdt rfl (.agg (ga (List.replicate 16 0) (List.replicate 16 0) (List.replicate 16 0) false false 0 0)) 52 (fun _ => by kernel_rfl) (by kernel_rfl) ?_; intro w1 hR1 _ hG1 hz1; rw [hz0] at hR1 hz1 ⊢; have hA1 : GB w1 N gdt k t0 t1 a b m n := (VB.old hA0 hG1 (by simp)); have hM1 : Below N w w1 := (below_none (below_none (Below.refl _ _) (by rw [HN.out]; omega) hG0) (by omega) hG1); clear hA0 hG0 hG1; have cb := hA1.bad1 HK.out H0.out H1.out)
    | ((with_reducible show wpList _ _ _ _ _ w1); refine load_rd (w := w1) rfl 53 _ rfl N 0 16 5 k (by rfl) hA1.key HK.out (by kernel_rfl) (by kernel_rfl) ?_)
    | (go_at_call 60; refine (tag_no k 1 code w1 HK.out HC1.out HC2.out).mono ?_; rintro e w2 ⟨rfl, hL2⟩; have hA2 := hA1.below hL2 (by omega); have hR2 := hR1.below hL2 (by omega); have hM2 := below_more hM1 hL2 (by omega); have hz2 := hL2.size; rw [hz1] at hz2; obtain ⟨G8, eG8⟩ : ∃ g, w2.heap.size = g := ⟨_, rfl⟩; clear hA1 hR1 cb hL2)
    | ((with_reducible show wpList _ _ _ _ _ w2); refine alloc_row (w := w2) rfl 53 rfl (.agg (Bs (List.replicate 16 0))) 16 (fun _ => by kernel_rfl) rfl ?_; intro w3 hR3 _ hG3 hz3; rw [eG8] at hR3 hz3 hz2 ⊢; have hA3 := hA2.old hG3 (by simp); have hS3 := hR2.old hG3 (by simp); have hM3 : Below N w w3 := (below_none hM2 (by omega) hG3); clear hA2 hR2 hG3)
    | ((with_reducible show wpList _ _ _ _ _ w3); refine store_blk (w := w3) rfl 53 _ _ rfl G8 53 16 (List.replicate 16 0) (by rfl) (by rfl) hR3 rfl (by kernel_rfl) ?_; intro w4 hB4 hG4 hz4; have hA4 := hA3.old hG4 (by simp; omega); have hS4 := hS3.old hG4 (by simp; omega); have hM4 : Below N w w4 := (below_new hM3 (by omega) hG4 (by omega)); clear hA3 hS3 hR3 hG4))
  rw [hz3] at hz4
  have HA4 := Lib.hid hA4
  have HS4 := Lib.hid hS4
  have HM4 := Lib.hid hM4
  have HB4 := Lib.hid hB4
  have HZ4 := Lib.hid hz4
  have HZ2 := Lib.hid hz2
  clear hA4 hS4 hM4 hB4 hz4 hz2 hz3 eG8
  go_quiet (fail)
  have hL : Below w4.heap.size w4 (w4.drewN nq) := Drawn.below0 ⟨nq, rfl⟩
  generalize w4.drewN nq = w5 at hL ⊢
  have hA5 : GB w5 N gdt k t0 t1 a b m n := HA4.out.next hL
  have hS5 : Row w5 (N + 1) gdt 52 := HS4.out.below hL HS4.out.lt
  have hM5 : Below N w w5 := below_more HM4.out hL (by have := HZ4.out; have := HZ2.out; omega)
  have hz5 : G8 + 1 ≤ w5.heap.size := by have := hL.size; have := HZ4.out; omega
  have hz6 := HZ2.out
  clear hL
  have cb5 := hA5.bad1 HK.out H0.out H1.out
  go_wp2_with (first
    | ((with_reducible show wpList _ _ _ _ _ w5); refine store_vb1 (w := w5) rfl 4 _ _ rfl N 49 gdt (gcs k t0 t1 a b m n) (.bool false) (by rfl) (by rfl) rfl hA5 _ (gcs_tail k t0 t1 a b m n HK.out H0.out H1.out 1 _ rfl) (by kernel_rfl) ?_; intro w6 hA6 hG6 hz7; have hA6' : GB w6 N gdt k t0 t1 a false m n := (by have h := hA6; rw [show 49 = 48 + 1 from rfl, gcs_set _ _ _ _ _ _ _ HK.out H0.out H1.out] at h; exact h); have hS6 := hS5.old hG6 (by simp); have hM6 : Below N w w6 := (below_new hM5 (by omega) hG6 (Nat.le_refl _)); have cb6 := hA6'.bad1 HK.out H0.out H1.out; clear hA6 hA5 hS5 hM5 cb5 hG6)
    | ((with_reducible show wpList _ _ _ _ _ w6); refine store_vb1 (w := w6) rfl 3 _ _ rfl N 51 gdt (gcs k t0 t1 a false m n) (.int .i64 (n + 1)) (by rfl) (by rfl) rfl hA6' _ (gcs_tail k t0 t1 _ _ m n HK.out H0.out H1.out 3 _ rfl) (by kernel_rfl) ?_; intro w7 hA7 hG7 hz8; have hA7' : GB w7 N gdt k t0 t1 a false m (n + 1) := (by have h := hA7; rw [show 51 = 48 + 3 from rfl, gcs_set _ _ _ _ _ _ _ HK.out H0.out H1.out] at h; exact h); have hS7 := hS6.old hG7 (by simp); have hM7 : Below N w w7 := (below_new hM6 (by omega) hG7 (Nat.le_refl _)); clear hA7 hA6' hS6 hM6 hG7 cb6)
    | ((with_reducible show wpList _ _ _ _ _ w7); refine load_gd (w := w7) (by rfl) _ rfl N gdt k t0 t1 a false m (n + 1) (by rfl) hA7' HK.out H0.out H1.out ?_)
    | ((with_reducible show wpList _ _ _ _ _ w7); refine store_vr (w := w7) rfl gdt _ _ rfl (N + 1) gdt 52 (gcs k t0 t1 a false m (n + 1)) (by rfl) (by rfl) hS7 (gcs_one _ _ _ _ _ _ _) (gcs_len _ _ _ _ _ _ _ HK.out H0.out H1.out) gdt_i ?_; intro w9 hB9 hG9 hz9))
  refine bodyPost_ret (results_gd rfl _ _ (N + 1) gdt k t0 t1 a false m (n + 1) rfl hB9 HK.out H0.out H1.out) rfl ⟨rfl, ?_⟩
  rw [HN.out]
  exact below_new hM7 (by omega) hG9 (by omega)
end Go.Proofs.YtbbfjlnkhenbiaaGreatDoor
set_option linter.unusedVariables false
set_option linter.unusedSimpArgs false
namespace Lk
open Go Go.RowKit
def zg : List UInt8 := List.replicate 16 0
theorem zg_len : zg.length = 16 := rfl
theorem gcs_in (k t0 t1 : List UInt8) (a b : Bool) (m n : Int) (c d : Bool) (hk : k.length = 16) (h0 : t0.length = 16) (h1 : t1.length = 16) : putV (gcs k t0 t1 a b m n) 48 [.bool c, .bool d] = gcs k t0 t1 c d m n := by
  unfold gcs
  have := putV_mid (Bl k ++ (Bl t0 ++ Bl t1)) [.bool a, .bool b] [.int .i64 m, .int .i64 n] [.bool c, .bool d] 48 (by simp only [List.length_append, Bl_len, hk, h0, h1]) rfl
  simpa using this
theorem gcs_put0 (k t0 t1 t : List UInt8) (a b : Bool) (m n : Int) (hk : k.length = 16) (h0 : t0.length = 16) (ht : t.length = 16) : putV (gcs k t0 t1 a b m n) 16 (Bl t) = gcs k t t1 a b m n := by
  unfold gcs
  exact putV_mid (Bl k) (Bl t0) _ (Bl t) 16 (by rw [Bl_len, hk]) (by rw [Bl_len, Bl_len, h0, ht])
theorem gcs_put1 (k t0 t1 t : List UInt8) (a b : Bool) (m n : Int) (hk : k.length = 16) (h0 : t0.length = 16) (h1 : t1.length = 16) (ht : t.length = 16) : putV (gcs k t0 t1 a b m n) 32 (Bl t) = gcs k t0 t a b m n := by
  unfold gcs
  have := putV_mid (Bl k ++ Bl t0) (Bl t1) [.bool a, .bool b, .int .i64 m, .int .i64 n] (Bl t) 32 (by simp only [List.length_append, Bl_len, hk, h0]) (by rw [Bl_len, Bl_len, h1, ht])
  simpa using this
section
open Go
variable {P : Program} {ops : Array Oper} {rest : List Oper} {o : Oper} {a : Act} {w : World} {Q : Exit → Act → World → Prop}
theorem op_build1 (hgd : o.guard = none) (ty : TypeId) (x : Operand) (ho : o.op = .build ty #[(0, x)]) (v u : Value) (hx : a.eval x = u) (hr : ∀ w, (Instr.build ty #[(0, u)]).run P w = .ok v w)
    (h : wpList P ops Q rest (a.put o.dst v) w) : wpList P ops Q (o :: rest) a w :=
  wpList_plain hgd fun _ hK => by
    unfold Oper.wp execOp
    simp only [ho, Sem.run_bind]
    have e : (#[(0, x)] : Array (Nat × Operand)).map (fun (i, y) => (i, a.eval y)) = #[(0, u)] := by simp [hx]
    rw [e, hr]
    exact hK _ _ h
end
theorem gcs_mid (k t0 t1 : List UInt8) (a b : Bool) (m n : Int) (hk : k.length = 16) (h0 : t0.length = 16) (h1 : t1.length = 16) : ((gcs k t0 t1 a b m n).drop 48).take 2 = [.bool a, .bool b] := by
  unfold gcs
  rw [← List.append_assoc, ← List.append_assoc, List.drop_left' (by simp only [List.length_append, Bl_len, hk, h0, h1])]
  rfl
theorem bs_bl (l : List UInt8) : Bs l = (Bl l).toArray := rfl
end Lk
namespace Go.Proofs.YtbbfjlnkhenbiaaGreatDoor
open Go.RowKit Lk
set_option maxHeartbeats 1600000 in
set_option maxRecDepth 100000 in
theorem Leave_any (k t0 t1 : List UInt8) (a b : Bool) (m n : Int) (w : World) (hk : k.length = 16) (h0 : t0.length = 16) (h1 : t1.length = 16) :
    Calls Tryz.prog 28 #[.agg (ga k t0 t1 a b m n)] w fun e w' => e = .returned (.agg (ga k t0 t1 false false m n)) ∧ Below w.heap.size w w' := by
  obtain ⟨N, hN⟩ : ∃ N, w.heap.size = N := ⟨_, rfl⟩
  have HN := Lib.hid hN
  have HK := Lib.hid hk
  have H0 := Lib.hid h0
  have H1 := Lib.hid h1
  clear hk h0 h1 hN
  go_enter Tryz.func28, Tryz.ntmps28
  go_wp2_with (first
    | ((with_reducible show wpList _ _ _ _ _ w); refine box_vb (w := w) rfl gdt _ rfl (gcs k t0 t1 a b m n) (by rfl) ?_; intro w0 hA0 hG0 hz0; rw [HN.out] at hA0 hz0 ⊢)
    | ((with_reducible show wpList _ _ _ _ _ w0); refine alloc_row (w := w0) rfl gdt rfl (.agg (ga zg zg zg false false 0 0)) 52 (fun _ => by kernel_rfl) (by kernel_rfl) ?_; intro w1 hR1 _ hG1 hz1; rw [hz0] at hR1 hz1 ⊢; have hA1 := VB.old hA0 hG1 (by simp); have hM1 : Below N w w1 := (below_none (below_none (Below.refl _ _) (by rw [HN.out]; omega) hG0) (by omega) hG1); clear hA0 hG0 hG1)
    | ((with_reducible show wpList _ _ _ _ _ w1); refine store_vb (w := w1) rfl 57 _ _ rfl N 48 gdt 2 (gcs k t0 t1 a b m n) [.bool false, .bool false] (by rfl) (by rfl) hA1 (gcs_one _ _ _ _ _ _ _) (by intro u hu; simp only [List.mem_cons, List.not_mem_nil, or_false] at hu; rcases hu with rfl | rfl <;> rfl) rfl (by rw [gcs_len _ _ _ _ _ _ _ HK.out H0.out H1.out]; decide) (by kernel_rfl) ?_; intro w2 hA2 hG2 hz2; rw [gcs_in _ _ _ _ _ _ _ _ _ HK.out H0.out H1.out] at hA2; have hR2 := hR1.old hG2 (by simp); have hM2 : Below N w w2 := (below_new hM1 (by omega) hG2 (Nat.le_refl _)); clear hA1 hR1 hG2 hM1)
    | ((with_reducible show wpList _ _ _ _ _ w2); refine load_gd (w := w2) (by rfl) _ rfl N gdt k t0 t1 false false m n (by rfl) hA2 HK.out H0.out H1.out ?_)
    | ((with_reducible show wpList _ _ _ _ _ w2); refine store_vr (w := w2) rfl gdt _ _ rfl (N + 1) gdt 52 (gcs k t0 t1 false false m n) (by rfl) (by rfl) hR2 (gcs_one _ _ _ _ _ _ _) (gcs_len _ _ _ _ _ _ _ HK.out H0.out H1.out) gdt_i ?_; intro w9 hB9 hG9 hz9))
  refine bodyPost_ret (results_gd1 rfl _ _ (N + 1) gdt k t0 t1 false false m n rfl hB9 HK.out H0.out H1.out) rfl ⟨rfl, ?_⟩
  rw [HN.out]
  exact below_new hM2 (by omega) hG9 (by omega)
set_option maxHeartbeats 1600000 in
set_option maxRecDepth 100000 in
theorem Both_ff (k t0 t1 : List UInt8) (m n : Int) (w : World) (hk : k.length = 16) (h0 : t0.length = 16) (h1 : t1.length = 16) :
    Calls Tryz.prog 32 #[.agg (ga k t0 t1 false false m n)] w fun e w' => ∃ v, e = .returned v ∧ ErV w' [0] 11 v ∧ Below w.heap.size w w' := by
  obtain ⟨N, hN⟩ : ∃ N, w.heap.size = N := ⟨_, rfl⟩
  have HN := Lib.hid hN
  have HK := Lib.hid hk
  have H0 := Lib.hid h0
  have H1 := Lib.hid h1
  clear hk h0 h1 hN
  have i0 : ∀ w, (Instr.index 57 (.agg #[.bool false, .bool false]) (.int .i64 0)).run Tryz.prog w = .ok (.bool false) w := fun _ => by kernel_rfl
  have i1 : ∀ w, (Instr.index 57 (.agg #[.bool false, .bool false]) (.int .i64 1)).run Tryz.prog w = .ok (.bool false) w := fun _ => by kernel_rfl
  go_enter Tryz.func32, Tryz.ntmps32
  go_wp2_with (first
    | ((with_reducible show wpList _ _ _ _ _ w); refine box_vb (w := w) rfl gdt _ rfl (gcs k t0 t1 false false m n) (by rfl) ?_; intro w0 hA0 hG0 hz0; rw [HN.out] at hA0 hz0 ⊢)
    | ((with_reducible show wpList _ _ _ _ _ w0); refine load_vb (w := w0) rfl 57 _ rfl N 48 gdt 2 (.array 2 4) (gcs k t0 t1 false false m n) [.bool false, .bool false] (by rfl) hA0 (gcs_mid _ _ _ _ _ _ _ HK.out H0.out H1.out) rfl (by kernel_rfl) rfl (by kernel_rfl) ?_))
  have hM0 : Below N w w0 := below_none (Below.refl _ _) (by rw [HN.out]; omega) hG0
  have HM0 := Lib.hid hM0
  have HZ0 := Lib.hid hz0
  clear hA0 hG0 hz0 hM0
  refine wp_loop_rounds 1 ?_
  rw [rounds_succ]
  go_wp2
  go_ret
  exact ⟨_, rfl, ⟨w0.heap.size, _, rfl, heap_alloc_new w0 _, rfl⟩, by rw [HN.out]; exact below_alloc HM0.out (by have := HZ0.out; omega) _⟩
set_option maxHeartbeats 1600000 in
set_option maxRecDepth 100000 in
theorem Both_ft (k t0 t1 : List UInt8) (m n : Int) (w : World) (hk : k.length = 16) (h0 : t0.length = 16) (h1 : t1.length = 16) :
    Calls Tryz.prog 32 #[.agg (ga k t0 t1 false true m n)] w fun e w' => ∃ v, e = .returned v ∧ ErV w' [0] 11 v ∧ Below w.heap.size w w' := by
  obtain ⟨N, hN⟩ : ∃ N, w.heap.size = N := ⟨_, rfl⟩
  have HN := Lib.hid hN
  have HK := Lib.hid hk
  have H0 := Lib.hid h0
  have H1 := Lib.hid h1
  clear hk h0 h1 hN
  have i0 : ∀ w, (Instr.index 57 (.agg #[.bool false, .bool true]) (.int .i64 0)).run Tryz.prog w = .ok (.bool false) w := fun _ => by kernel_rfl
  have i1 : ∀ w, (Instr.index 57 (.agg #[.bool false, .bool true]) (.int .i64 1)).run Tryz.prog w = .ok (.bool true) w := fun _ => by kernel_rfl
  go_enter Tryz.func32, Tryz.ntmps32
  go_wp2_with (first
    | ((with_reducible show wpList _ _ _ _ _ w); refine box_vb (w := w) rfl gdt _ rfl (gcs k t0 t1 false true m n) (by rfl) ?_; intro w0 hA0 hG0 hz0; rw [HN.out] at hA0 hz0 ⊢)
    | ((with_reducible show wpList _ _ _ _ _ w0); refine load_vb (w := w0) rfl 57 _ rfl N 48 gdt 2 (.array 2 4) (gcs k t0 t1 false true m n) [.bool false, .bool true] (by rfl) hA0 (gcs_mid _ _ _ _ _ _ _ HK.out H0.out H1.out) rfl (by kernel_rfl) rfl (by kernel_rfl) ?_))
  have hM0 : Below N w w0 := below_none (Below.refl _ _) (by rw [HN.out]; omega) hG0
  have HM0 := Lib.hid hM0
  have HZ0 := Lib.hid hz0
  clear hA0 hG0 hz0 hM0
  refine wp_loop_rounds 1 ?_
  rw [rounds_succ]
  go_wp2
  go_ret
  exact ⟨_, rfl, ⟨w0.heap.size, _, rfl, heap_alloc_new w0 _, rfl⟩, by rw [HN.out]; exact below_alloc HM0.out (by have := HZ0.out; omega) _⟩
set_option maxHeartbeats 1600000 in
set_option maxRecDepth 100000 in
theorem Both_tf (k t0 t1 : List UInt8) (m n : Int) (w : World) (hk : k.length = 16) (h0 : t0.length = 16) (h1 : t1.length = 16) :
    Calls Tryz.prog 32 #[.agg (ga k t0 t1 true false m n)] w fun e w' => ∃ v, e = .returned v ∧ ErV w' [1] 11 v ∧ Below w.heap.size w w' := by
  obtain ⟨N, hN⟩ : ∃ N, w.heap.size = N := ⟨_, rfl⟩
  have HN := Lib.hid hN
  have HK := Lib.hid hk
  have H0 := Lib.hid h0
  have H1 := Lib.hid h1
  clear hk h0 h1 hN
  have i0 : ∀ w, (Instr.index 57 (.agg #[.bool true, .bool false]) (.int .i64 0)).run Tryz.prog w = .ok (.bool true) w := fun _ => by kernel_rfl
  have i1 : ∀ w, (Instr.index 57 (.agg #[.bool true, .bool false]) (.int .i64 1)).run Tryz.prog w = .ok (.bool false) w := fun _ => by kernel_rfl
  go_enter Tryz.func32, Tryz.ntmps32
  go_wp2_with (first
    | ((with_reducible show wpList _ _ _ _ _ w); refine box_vb (w := w) rfl gdt _ rfl (gcs k t0 t1 true false m n) (by rfl) ?_; intro w0 hA0 hG0 hz0; rw [HN.out] at hA0 hz0 ⊢)
    | ((with_reducible show wpList _ _ _ _ _ w0); refine load_vb (w := w0) rfl 57 _ rfl N 48 gdt 2 (.array 2 4) (gcs k t0 t1 true false m n) [.bool true, .bool false] (by rfl) hA0 (gcs_mid _ _ _ _ _ _ _ HK.out H0.out H1.out) rfl (by kernel_rfl) rfl (by kernel_rfl) ?_))
  have hM0 : Below N w w0 := below_none (Below.refl _ _) (by rw [HN.out]; omega) hG0
  have HM0 := Lib.hid hM0
  have HZ0 := Lib.hid hz0
  clear hA0 hG0 hz0 hM0
  refine wp_loop_rounds 2 ?_
  rw [rounds_succ]
  go_wp2
  rw [rounds_succ]
  go_wp2
  go_ret
  exact ⟨_, rfl, ⟨w0.heap.size, _, rfl, heap_alloc_new w0 _, rfl⟩, by rw [HN.out]; exact below_alloc HM0.out (by have := HZ0.out; omega) _⟩
set_option maxHeartbeats 1600000 in
set_option maxRecDepth 100000 in
theorem Both_tt (k t0 t1 : List UInt8) (m n : Int) (w : World) (hk : k.length = 16) (h0 : t0.length = 16) (h1 : t1.length = 16) :
    Calls Tryz.prog 32 #[.agg (ga k t0 t1 true true m n)] w fun e w' => e = .returned .nilIface ∧ Below w.heap.size w w' := by
  obtain ⟨N, hN⟩ : ∃ N, w.heap.size = N := ⟨_, rfl⟩
  have HN := Lib.hid hN
  have HK := Lib.hid hk
  have H0 := Lib.hid h0
  have H1 := Lib.hid h1
  clear hk h0 h1 hN
  have i0 : ∀ w, (Instr.index 57 (.agg #[.bool true, .bool true]) (.int .i64 0)).run Tryz.prog w = .ok (.bool true) w := fun _ => by kernel_rfl
  have i1 : ∀ w, (Instr.index 57 (.agg #[.bool true, .bool true]) (.int .i64 1)).run Tryz.prog w = .ok (.bool true) w := fun _ => by kernel_rfl
  go_enter Tryz.func32, Tryz.ntmps32
  go_wp2_with (first
    | ((with_reducible show wpList _ _ _ _ _ w); refine box_vb (w := w) rfl gdt _ rfl (gcs k t0 t1 true true m n) (by rfl) ?_; intro w0 hA0 hG0 hz0; rw [HN.out] at hA0 hz0 ⊢)
    | ((with_reducible show wpList _ _ _ _ _ w0); refine load_vb (w := w0) rfl 57 _ rfl N 48 gdt 2 (.array 2 4) (gcs k t0 t1 true true m n) [.bool true, .bool true] (by rfl) hA0 (gcs_mid _ _ _ _ _ _ _ HK.out H0.out H1.out) rfl (by kernel_rfl) rfl (by kernel_rfl) ?_))
  have hM0 : Below N w w0 := below_none (Below.refl _ _) (by rw [HN.out]; omega) hG0
  have HM0 := Lib.hid hM0
  have HZ0 := Lib.hid hz0
  clear hA0 hG0 hz0 hM0
  refine wp_loop_rounds 3 ?_
  rw [rounds_succ]
  go_wp2
  rw [rounds_succ]
  go_wp2
  rw [rounds_succ]
  go_wp2
  go_ret
  exact ⟨rfl, by rw [HN.out]; exact HM0.out⟩
theorem list16g (l : List UInt8) (h : l.length = 16) : ∃ a0 a1 a2 a3 a4 a5 a6 a7 a8 a9 a10 a11 a12 a13 a14 a15, l = [a0, a1, a2, a3, a4, a5, a6, a7, a8, a9, a10, a11, a12, a13, a14, a15] := by
  match l, h with
  | [a0, a1, a2, a3, a4, a5, a6, a7, a8, a9, a10, a11, a12, a13, a14, a15], _ => exact ⟨a0, a1, a2, a3, a4, a5, a6, a7, a8, a9, a10, a11, a12, a13, a14, a15, rfl⟩
theorem build_guard (k : List UInt8) (hk : k.length = 16) (w : World) : (Instr.build gdt #[(0, .agg (Bs k))]).run Tryz.prog w = .ok (.agg (ga k zg zg false false 0 0)) w := by
  obtain ⟨a0, a1, a2, a3, a4, a5, a6, a7, a8, a9, a10, a11, a12, a13, a14, a15, rfl⟩ := list16g k hk
  kernel_rfl
theorem build_guard0 (w : World) : (Instr.build gdt #[]).run Tryz.prog w = .ok (.agg (ga zg zg zg false false 0 0)) w := by kernel_rfl
set_option maxHeartbeats 6400000 in
set_option maxRecDepth 100000 in
theorem GNew_yes (k : List UInt8) (c0 c1 : ByteArray) (w : World) (hk : k.length = 16) (h01 : 4 ≤ c0.size) (h02 : c0.size ≤ 16) (h11 : 4 ≤ c1.size) (h12 : c1.size ≤ 16) :
    Calls Tryz.prog 27 #[.agg (Bs k), .string c0, .string c1] w fun e w' => e = .returned (.tuple #[.agg (ga k (ptag k 0 c0) (ptag k 1 c1) false false 0 0), .nilIface]) ∧ Below w.heap.size w w' := by
  obtain ⟨N, hN⟩ : ∃ N, w.heap.size = N := ⟨_, rfl⟩
  have HN := Lib.hid hN
  have HK := Lib.hid hk
  have HB := Lib.hid (fun w => build_guard k hk w)
  have T0 := Lib.hid (fun (w1 : World) => tag_yes k 0 0 c0 w1 (by decide) hk h01 h02)
  have T1 := Lib.hid (fun (w1 : World) => tag_yes k 1 1 c1 w1 (by decide) hk h11 h12)
  have L0 := Lib.hid (ptag_len k 0 c0)
  have L1 := Lib.hid (ptag_len k 1 c1)
  have HZ := Lib.hid (show zg.length = 16 from zg_len)
  clear hk hN h01 h02 h11 h12
  go_enter Tryz.func27, Tryz.ntmps27
  go_wp2_with (first
    | ((with_reducible show wpList _ _ _ _ _ w); refine box_blk (w := w) rfl 53 _ rfl k rfl ?_; intro w0 hK0 hG0 hz0; rw [HN.out] at hK0 hz0 ⊢)
    | ((with_reducible show wpList _ _ _ _ _ w0); refine alloc_row (w := w0) rfl gdt rfl (.agg (ga zg zg zg false false 0 0)) 52 (fun _ => by kernel_rfl) (by kernel_rfl) ?_; intro w1 hR1 _ hG1 hz1; rw [hz0] at hR1 hz1 ⊢; have hK1 := hK0.old hG1 (by simp); have hM1 : Below N w w1 := (below_none (below_none (Below.refl _ _) (by rw [HN.out]; omega) hG0) (by omega) hG1); clear hK0 hG0 hG1)
    | ((with_reducible show wpList _ _ _ _ _ w1); refine load_blk (w := w1) rfl 53 _ rfl N 53 16 5 k (by rfl) hK1 HK.out (by kernel_rfl) (by kernel_rfl) ?_)
    | ((with_reducible show wpList _ _ _ _ _ w1); refine op_build1 (w := w1) rfl gdt _ rfl _ (.agg (Bs k)) (by rfl) HB.out ?_)
    | ((with_reducible show wpList _ _ _ _ _ w1); refine alloc_row (w := w1) rfl gdt rfl (.agg (ga zg zg zg false false 0 0)) 52 (fun _ => by kernel_rfl) (by kernel_rfl) ?_; intro w2 hR2 _ hG2 hz2; rw [hz1] at hR2 hz2 ⊢; have hK2 := hK1.old hG2 (by simp); have hS2 := hR1.old hG2 (by simp); have hM2 : Below N w w2 := (below_none hM1 (by omega) hG2); clear hK1 hR1 hG2)
    | ((with_reducible show wpList _ _ _ _ _ w2); refine store_vr (w := w2) rfl gdt _ _ rfl (N + 1 + 1) gdt 52 (gcs k zg zg false false 0 0) (by rfl) (by rfl) hR2 (gcs_one _ _ _ _ _ _ _) (gcs_len _ _ _ _ _ _ _ HK.out HZ.out HZ.out) gdt_i ?_; intro w3 hA3 hG3 hz3; rw [hz2] at hz3; have hK3 := hK2.old hG3 (by simp; omega); have hS3 := hS2.old hG3 (by simp); have hM3 : Below N w w3 := (below_new hM2 (by omega) hG3 (by omega)); clear hK2 hS2 hR2 hG3))
  have hVw4 : VB (w3.alloc (.cells #[.string c0, .string c1] 9)) (N + 1 + 1 + 1) 9 [.string c0, .string c1] := by rw [← hz3]; exact heap_alloc_new w3 _
  have hAw4 : GB (w3.alloc (.cells #[.string c0, .string c1] 9)) (N + 1 + 1) gdt k zg zg false false 0 0 := VB.alloc hA3 _
  have hKw4 := hK3.alloc (.cells #[.string c0, .string c1] 9)
  have hSw4 : Row (w3.alloc (.cells #[.string c0, .string c1] 9)) (N + 1) gdt 52 := hS3.old (grown_alloc (grown_refl _ none) _) (by simp)
  have hMw4 : Below N w (w3.alloc (.cells #[.string c0, .string c1] 9)) := below_alloc hM3 (by omega) _
  have hzw4 : N + 1 + 1 + 1 + 1 ≤ (w3.alloc (.cells #[.string c0, .string c1] 9)).heap.size := by show _ ≤ (w3.heap.push _).size; simp; omega
  generalize w3.alloc (.cells #[.string c0, .string c1] 9) = w4 at hVw4 hAw4 hKw4 hSw4 hMw4 hzw4 ⊢
  clear hA3 hK3 hS3 hM3 hz3
  refine wp_loop_rounds 3 ?_
  have csw4 := hVw4.cell 0 _ rfl
  rw [rounds_succ]
  go_wp2_with (first
    | ((with_reducible show wpList _ _ _ _ _ w4); refine load_blk (w := w4) rfl 53 _ rfl N 53 16 5 k (by rfl) hKw4 HK.out (by kernel_rfl) (by kernel_rfl) ?_)
    | (go_at_call 60; refine (T0.out w4).mono ?_; rintro e w5 ⟨rfl, hL⟩; have hAw5 := hAw4.below hL (by omega); have hKw5 := hKw4.below hL (by omega); have hSw5 := hSw4.below hL (by omega); have hVw5 := hVw4.below hL (by omega); have hMw5 := below_more hMw4 hL (by omega); have hzw5 := hL.size; obtain ⟨G0, eG0⟩ : ∃ g, w5.heap.size = g := ⟨_, rfl⟩; clear hL hAw4 hKw4 hSw4 hVw4 hMw4 csw4)
    | ((with_reducible show wpList _ _ _ _ _ w5); refine alloc_row (w := w5) rfl 53 rfl (.agg (Bs (List.replicate 16 0))) 16 (fun _ => by kernel_rfl) rfl ?_; intro w6 hRw6 _ hG hzw6; have hAw6 := hAw5.old hG (by simp); have hKw6 := hKw5.old hG (by simp); have hSw6 := hSw5.old hG (by simp); have hVw6 := hVw5.old hG (by simp); have hMw6 : Below N w w6 := (below_none hMw5 (by omega) hG); rw [eG0] at hRw6 hzw6 hzw5 ⊢; clear hG hAw5 hKw5 hSw5 hVw5 hMw5)
    | ((with_reducible show wpList _ _ _ _ _ w6); refine store_blk (w := w6) rfl 53 _ _ rfl G0 53 16 (ptag k 0 c0) (by rfl) (by rfl) hRw6 (ptag_len _ _ _) (by kernel_rfl) ?_; intro w7 hBw7 hG hzw7; have hAw7 := hAw6.old hG (by simp; omega); have hKw7 := hKw6.old hG (by simp; omega); have hSw7 := hSw6.old hG (by simp; omega); have hVw7 := hVw6.old hG (by simp; omega); have hMw7 : Below N w w7 := (below_new hMw6 (by omega) hG (by omega)); clear hG hAw6 hKw6 hSw6 hVw6 hMw6 hRw6)
    | ((with_reducible show wpList _ _ _ _ _ w7); refine load_blk (w := w7) rfl 53 _ rfl G0 53 16 5 (ptag k 0 c0) (by rfl) hBw7 (ptag_len _ _ _) (by kernel_rfl) (by kernel_rfl) ?_)
    | ((with_reducible show wpList _ _ _ _ _ w7); refine store_vb (w := w7) rfl 53 _ _ rfl (N + 1 + 1) 16 gdt 16 (gcs k zg zg false false 0 0) (Bl (ptag k 0 c0)) (by rfl) (by rfl) hAw7 (gcs_one _ _ _ _ _ _ _) (Bl_one _) (by rw [Bl_len, ptag_len]) (by rw [gcs_len _ _ _ _ _ _ _ HK.out HZ.out HZ.out]; decide) (by kernel_rfl) ?_; intro w8 hAw8 hG hzw8; rw [gcs_put0 _ _ _ _ _ _ _ _ HK.out HZ.out L0.out] at hAw8; have hKw8 := hKw7.old hG (by simp; omega); have hSw8 := hSw7.old hG (by simp); have hVw8 := hVw7.old hG (by simp); have hMw8 : Below N w w8 := (below_new hMw7 (by omega) hG (by omega)); have hz : N + 1 + 1 + 1 + 1 ≤ w8.heap.size := (by omega); clear hG hAw7 hKw7 hSw7 hVw7 hMw7 hBw7 hzw4 hzw5 hzw6 hzw7 eG0 hzw8; have hzw8 := hz; clear hz))
  have csw8 := hVw8.cell 1 _ rfl
  rw [rounds_succ]
  go_wp2_with (first
    | ((with_reducible show wpList _ _ _ _ _ w8); refine load_blk (w := w8) rfl 53 _ rfl N 53 16 5 k (by rfl) hKw8 HK.out (by kernel_rfl) (by kernel_rfl) ?_)
    | (go_at_call 60; refine (T1.out w8).mono ?_; rintro e w11 ⟨rfl, hL⟩; have hAw11 := hAw8.below hL (by omega); have hKw11 := hKw8.below hL (by omega); have hSw11 := hSw8.below hL (by omega); have hVw11 := hVw8.below hL (by omega); have hMw11 := below_more hMw8 hL (by omega); have hzw11 := hL.size; obtain ⟨G1, eG1⟩ : ∃ g, w11.heap.size = g := ⟨_, rfl⟩; clear hL hAw8 hKw8 hSw8 hVw8 hMw8 csw8)
    | ((with_reducible show wpList _ _ _ _ _ w11); refine alloc_row (w := w11) rfl 53 rfl (.agg (Bs (List.replicate 16 0))) 16 (fun _ => by kernel_rfl) rfl ?_; intro w12 hRw12 _ hG hzw12; have hAw12 := hAw11.old hG (by simp); have hKw12 := hKw11.old hG (by simp); have hSw12 := hSw11.old hG (by simp); have hVw12 := hVw11.old hG (by simp); have hMw12 : Below N w w12 := (below_none hMw11 (by omega) hG); rw [eG1] at hRw12 hzw12 hzw11 ⊢; clear hG hAw11 hKw11 hSw11 hVw11 hMw11)
    | ((with_reducible show wpList _ _ _ _ _ w12); refine store_blk (w := w12) rfl 53 _ _ rfl G1 53 16 (ptag k 1 c1) (by rfl) (by rfl) hRw12 (ptag_len _ _ _) (by kernel_rfl) ?_; intro w13 hBw13 hG hzw13; have hAw13 := hAw12.old hG (by simp; omega); have hKw13 := hKw12.old hG (by simp; omega); have hSw13 := hSw12.old hG (by simp; omega); have hVw13 := hVw12.old hG (by simp; omega); have hMw13 : Below N w w13 := (below_new hMw12 (by omega) hG (by omega)); clear hG hAw12 hKw12 hSw12 hVw12 hMw12 hRw12)
    | ((with_reducible show wpList _ _ _ _ _ w13); refine load_blk (w := w13) rfl 53 _ rfl G1 53 16 5 (ptag k 1 c1) (by rfl) hBw13 (ptag_len _ _ _) (by kernel_rfl) (by kernel_rfl) ?_)
    | ((with_reducible show wpList _ _ _ _ _ w13); refine store_vb (w := w13) rfl 53 _ _ rfl (N + 1 + 1) 32 gdt 16 (gcs k (ptag k 0 c0) zg false false 0 0) (Bl (ptag k 1 c1)) (by rfl) (by rfl) hAw13 (gcs_one _ _ _ _ _ _ _) (Bl_one _) (by rw [Bl_len, ptag_len]) (by rw [gcs_len _ _ _ _ _ _ _ HK.out L0.out HZ.out]; decide) (by kernel_rfl) ?_; intro w14 hAw14 hG hzw14; rw [gcs_put1 _ _ _ _ _ _ _ _ HK.out L0.out HZ.out L1.out] at hAw14; have hKw14 := hKw13.old hG (by simp; omega); have hSw14 := hSw13.old hG (by simp); have hVw14 := hVw13.old hG (by simp); have hMw14 : Below N w w14 := (below_new hMw13 (by omega) hG (by omega)); have hz : N + 1 + 1 + 1 + 1 ≤ w14.heap.size := (by omega); clear hG hAw13 hKw13 hSw13 hVw13 hMw13 hBw13 hzw8 hzw11 hzw12 hzw13 eG1 hzw14; have hzw14 := hz; clear hz))
  rw [rounds_succ]
  go_wp2_with (first
    | ((with_reducible show wpList _ _ _ _ _ w14); refine load_gd (w := w14) (by rfl) _ rfl (N + 1 + 1) gdt k (ptag k 0 c0) (ptag k 1 c1) false false 0 0 (by rfl) hAw14 HK.out L0.out L1.out ?_)
    | ((with_reducible show wpList _ _ _ _ _ w14); refine store_vr (w := w14) rfl gdt _ _ rfl (N + 1) gdt 52 (gcs k (ptag k 0 c0) (ptag k 1 c1) false false 0 0) (by rfl) (by rfl) hSw14 (gcs_one _ _ _ _ _ _ _) (gcs_len _ _ _ _ _ _ _ HK.out L0.out L1.out) gdt_i ?_; intro w99 hB99 hG99 hz99))
  refine bodyPost_ret (results_gd rfl _ _ (N + 1) gdt k (ptag k 0 c0) (ptag k 1 c1) false false 0 0 rfl hB99 HK.out L0.out L1.out) rfl ⟨rfl, ?_⟩
  rw [HN.out]
  exact below_new hMw14 (by omega) hG99 (by omega)
end Go.Proofs.YtbbfjlnkhenbiaaGreatDoor
set_option linter.unusedVariables false
set_option linter.unusedSimpArgs false
namespace Lk
theorem pdo_inj1 (key a b : List UInt8) (ha : a.length = 16) (hb : b.length = 16) (h : pdo 1 key a false = pdo 1 key b false) : a = b := by
  have h2 : pdo 1 key (pdo 1 key a false) true = pdo 1 key (pdo 1 key b false) true := by rw [h]
  have e : ∀ x : List UInt8, x.length = 16 → pdo 1 key (pdo 1 key x false) true = x := fun x hx => pDec_pEnc key x hx
  rwa [e a ha, e b hb] at h2
theorem cmac_short_inj (key a b : List UInt8) (ha : a.length < 16) (hb : b.length < 16) (h : pcmac 1 key a = pcmac 1 key b) : ppad a 16 = ppad b 16 := by
  have hA := pcmac_short 1 key a (.inl rfl) ha
  have hB := pcmac_short 1 key b (.inl rfl) hb
  rw [hA, hB] at h
  have la : (ppad a 16).length = 16 := (ppad_short a 16 ha).2
  have lb : (ppad b 16).length = 16 := (ppad_short b 16 hb).2
  have h2 := pdo_inj1 key _ _ (by rw [pxor_len]; exact la) (by rw [pxor_len]; exact lb) h
  exact (pxor_inj _ _ _ (by rw [la, lb])).1 h2
def k24 : List UInt8 := [1, 0, 0, 0, 0, 0, 0, 0, 0, 0, 0, 0, 0, 0, 0, 0]
def c24a : ByteArray := ⟨#[102, 105, 114, 115, 116]⟩
def c24b : ByteArray := ⟨#[115, 101, 99, 111, 110, 100]⟩
theorem unlike24 : ptag k24 0 c24b ≠ ptag k24 0 c24a := by
  intro h
  have := cmac_short_inj k24 (0 :: sb c24b) (0 :: sb c24a) (by decide) (by decide) h
  revert this
  decide
end Lk
namespace Go.Proofs.YtbbfjlnkhenbiaaGreatDoor
open Go.RowKit Lk
theorem GNew_arr (ar : Array Value) (k : List UInt8) (c0 c1 : ByteArray) (har : ar = Bs k) (w : World) (hk : k.length = 16) (h01 : 4 ≤ c0.size) (h02 : c0.size ≤ 16) (h11 : 4 ≤ c1.size) (h12 : c1.size ≤ 16) :
    Calls Tryz.prog 27 #[.agg ar, .string c0, .string c1] w fun e w' => e = .returned (.tuple #[.agg (ga k (ptag k 0 c0) (ptag k 1 c1) false false 0 0), .nilIface]) ∧ Below w.heap.size w w' := by
  subst har; exact GNew_yes k c0 c1 w hk h01 h02 h11 h12
set_option maxHeartbeats 6400000 in
set_option maxRecDepth 100000 in
theorem awake24 (w : World) (hE : Et w) : Calls Tryz.prog 26 #[] w fun e w' => e = .returned (.bool true) ∧ Below w.heap.size w w' := by
  obtain ⟨N, hN⟩ : ∃ N, w.heap.size = N := ⟨_, rfl⟩
  have HN := Lib.hid hN
  obtain ⟨K, eK⟩ : ∃ K, k24 = K := ⟨_, rfl⟩
  obtain ⟨T0, eT0⟩ : ∃ t, ptag K 0 c24a = t := ⟨_, rfl⟩
  obtain ⟨T1, eT1⟩ : ∃ t, ptag K 1 c24b = t := ⟨_, rfl⟩
  have HK := Lib.hid (show K.length = 16 by rw [← eK]; rfl)
  have H0 := Lib.hid (show T0.length = 16 by rw [← eT0]; exact ptag_len _ _ _)
  have H1 := Lib.hid (show T1.length = 16 by rw [← eT1]; exact ptag_len _ _ _)
  have ET0 := Lib.hid eT0
  have ET1 := Lib.hid eT1
  have HUN := Lib.hid (show ptag K 0 c24b ≠ T0 by rw [← eT0, ← eK]; exact unlike24)
  have HNW := Lib.hid (fun (w1 : World) => GNew_arr #[.int .u8 1, .int .u8 0, .int .u8 0, .int .u8 0, .int .u8 0, .int .u8 0, .int .u8 0, .int .u8 0, .int .u8 0, .int .u8 0, .int .u8 0, .int .u8 0, .int .u8 0, .int .u8 0, .int .u8 0, .int .u8 0] K c24a c24b (by rw [← eK]; rfl) w1 (by rw [← eK]; rfl) (by decide) (by decide) (by decide) (by decide))
  rw [eT0, eT1] at HNW
  clear eK eT0 eT1
  have hM0 : Below N w w := Below.refl _ _
  have hs0 : N ≤ w.heap.size := by omega
  have E_0 := Lib.hid (hE)
  clear hE
  go_enter Tryz.func26, Tryz.ntmps26
  go_wp2_with (first | (go_at_call 27; (with_reducible show Calls _ _ _ w _); refine (HNW.out w).mono ?_; rintro e w1c ⟨rfl, hLc⟩) | ((with_reducible show wpList _ _ _ _ _ w1c); refine alloc_row (w := w1c) rfl gdt rfl (.agg (ga zg zg zg false false 0 0)) 52 (fun _ => by kernel_rfl) (by kernel_rfl) ?_; intro w1a hRa _ hGa hza) | ((with_reducible show wpList _ _ _ _ _ w1a); refine store_vr (w := w1a) rfl gdt _ _ rfl w1c.heap.size gdt 52 (gcs K T0 T1 false false 0 0) (by rfl) (by rfl) hRa (gcs_one _ _ _ _ _ _ _) (gcs_len _ _ _ _ _ _ _ HK.out H0.out H1.out) gdt_i ?_; intro w1 hBb hGb hzb; have hL : Below w.heap.size w w1 := below_new (below_none hLc hLc.size hGa) (by have := hLc.size; omega) hGb hLc.size; obtain ⟨Gg, eGx⟩ : ∃ g, w1c.heap.size = g := ⟨_, rfl⟩; have hgB : GB w1 Gg gdt K T0 T1 false false 0 0 := (by rw [← eGx]; exact hBb); rw [eGx]; clear hRa hGa hza hBb hGb hzb hLc eGx; have hM1 : Below N w w1 := below_more hM0 hL hs0; have hs1 : N ≤ w1.heap.size := Nat.le_trans hs0 (hL).size; have E_1 := Lib.hid (E_0.out.below hL); clear E_0; clear hM0 hs0; have g_1 := Lib.hid (hgB); clear hL hgB) | ((with_reducible show wpList _ _ _ _ _ w1); refine load_gd (w := w1) (by rfl) _ rfl Gg gdt K T0 T1 false false 0 0 (by rfl) g_1.out HK.out H0.out H1.out ?_) | (go_at_call 31; (with_reducible show Calls _ _ _ w1 _); refine (Enter_yes0 K T0 T1 false false 0 0 c24a w1 HK.out H0.out H1.out (by decide) (by decide) (by decide) (by decide) ET0.out).mono ?_; rintro e w2c ⟨rfl, hLc⟩) | ((with_reducible show wpList _ _ _ _ _ w2c); refine alloc_row (w := w2c) rfl gdt rfl (.agg (ga zg zg zg false false 0 0)) 52 (fun _ => by kernel_rfl) (by kernel_rfl) ?_; intro w2a hRa _ hGa hza) | ((with_reducible show wpList _ _ _ _ _ w2a); refine store_vr (w := w2a) rfl gdt _ _ rfl w2c.heap.size gdt 52 (gcs K T0 T1 true false 0 0) (by rfl) (by rfl) hRa (gcs_one _ _ _ _ _ _ _) (gcs_len _ _ _ _ _ _ _ HK.out H0.out H1.out) gdt_i ?_; intro w2 hBb hGb hzb; have hL : Below w1.heap.size w1 w2 := below_new (below_none hLc hLc.size hGa) (by have := hLc.size; omega) hGb hLc.size; obtain ⟨Gh, eGx⟩ : ∃ g, w2c.heap.size = g := ⟨_, rfl⟩; have hgB : GB w2 Gh gdt K T0 T1 true false 0 0 := (by rw [← eGx]; exact hBb); rw [eGx]; clear hRa hGa hza hBb hGb hzb hLc eGx; have hM2 : Below N w w2 := below_more hM1 hL hs1; have hs2 : N ≤ w2.heap.size := Nat.le_trans hs1 (hL).size; have E_2 := Lib.hid (E_1.out.below hL); clear E_1; have g_2 := Lib.hid (g_1.out.next hL); clear g_1; clear hM1 hs1; have h_2 := Lib.hid (hgB); clear hL hgB) | ((with_reducible show wpList _ _ _ _ _ w2); refine load_gd (w := w2) (by rfl) _ rfl Gh gdt K T0 T1 true false 0 0 (by rfl) h_2.out HK.out H0.out H1.out ?_) | (go_at_call 31; (with_reducible show Calls _ _ _ w2 _); refine (Enter_other0 K T0 T1 true false 0 0 c24b w2 HK.out H0.out H1.out (by decide) (by decide) (by decide) (by decide) HUN.out).mono ?_; rintro e w3c ⟨rfl, hLc⟩) | ((with_reducible show wpList _ _ _ _ _ w3c); refine alloc_row (w := w3c) rfl gdt rfl (.agg (ga zg zg zg false false 0 0)) 52 (fun _ => by kernel_rfl) (by kernel_rfl) ?_; intro w3a hRa _ hGa hza) | ((with_reducible show wpList _ _ _ _ _ w3a); refine store_vr (w := w3a) rfl gdt _ _ rfl w3c.heap.size gdt 52 (gcs K T0 T1 false false (0 + 1) 0) (by rfl) (by rfl) hRa (gcs_one _ _ _ _ _ _ _) (gcs_len _ _ _ _ _ _ _ HK.out H0.out H1.out) gdt_i ?_; intro w3 hBb hGb hzb; have hL : Below w2.heap.size w2 w3 := below_new (below_none hLc hLc.size hGa) (by have := hLc.size; omega) hGb hLc.size; obtain ⟨Gi, eGx⟩ : ∃ g, w3c.heap.size = g := ⟨_, rfl⟩; have hgB : GB w3 Gi gdt K T0 T1 false false (0 + 1) 0 := (by rw [← eGx]; exact hBb); rw [eGx]; clear hRa hGa hza hBb hGb hzb hLc eGx; have hM3 : Below N w w3 := below_more hM2 hL hs2; have hs3 : N ≤ w3.heap.size := Nat.le_trans hs2 (hL).size; have E_3 := Lib.hid (E_2.out.below hL); clear E_2; have g_3 := Lib.hid (g_2.out.next hL); clear g_2; have h_3 := Lib.hid (h_2.out.next hL); clear h_2; clear hM2 hs2; have i_3 := Lib.hid (hgB); clear hL hgB) | ((with_reducible show wpList _ _ _ _ _ w3); refine load_gd (w := w3) (by rfl) _ rfl Gh gdt K T0 T1 true false 0 0 (by rfl) h_3.out HK.out H0.out H1.out ?_) | (go_at_call 31; (with_reducible show Calls _ _ _ w3 _); refine (Enter_yes1 K T0 T1 true false 0 0 c24b w3 HK.out H0.out H1.out (by decide) (by decide) (by decide) (by decide) ET1.out).mono ?_; rintro e w4c ⟨rfl, hLc⟩) | ((with_reducible show wpList _ _ _ _ _ w4c); refine alloc_row (w := w4c) rfl gdt rfl (.agg (ga zg zg zg false false 0 0)) 52 (fun _ => by kernel_rfl) (by kernel_rfl) ?_; intro w4a hRa _ hGa hza) | ((with_reducible show wpList _ _ _ _ _ w4a); refine store_vr (w := w4a) rfl gdt _ _ rfl w4c.heap.size gdt 52 (gcs K T0 T1 true true 0 0) (by rfl) (by rfl) hRa (gcs_one _ _ _ _ _ _ _) (gcs_len _ _ _ _ _ _ _ HK.out H0.out H1.out) gdt_i ?_; intro w4 hBb hGb hzb; have hL : Below w3.heap.size w3 w4 := below_new (below_none hLc hLc.size hGa) (by have := hLc.size; omega) hGb hLc.size; obtain ⟨Gj, eGx⟩ : ∃ g, w4c.heap.size = g := ⟨_, rfl⟩; have hgB : GB w4 Gj gdt K T0 T1 true true 0 0 := (by rw [← eGx]; exact hBb); rw [eGx]; clear hRa hGa hza hBb hGb hzb hLc eGx; have hM4 : Below N w w4 := below_more hM3 hL hs3; have hs4 : N ≤ w4.heap.size := Nat.le_trans hs3 (hL).size; have E_4 := Lib.hid (E_3.out.below hL); clear E_3; have g_4 := Lib.hid (g_3.out.next hL); clear g_3; have h_4 := Lib.hid (h_3.out.next hL); clear h_3; have i_4 := Lib.hid (i_3.out.next hL); clear i_3; clear hM3 hs3; have j_4 := Lib.hid (hgB); clear hL hgB) | (go_at_call 15; (with_reducible show Calls _ _ _ w4 _); refine (Code_any [] 12 _ w4 E_4.out rfl).mono ?_; rintro e w5 ⟨rfl, hL⟩; have hM5 : Below N w w5 := below_more hM4 hL hs4; have hs5 : N ≤ w5.heap.size := Nat.le_trans hs4 (hL).size; have E_5 := Lib.hid (E_4.out.below hL); clear E_4; have g_5 := Lib.hid (g_4.out.next hL); clear g_4; have h_5 := Lib.hid (h_4.out.next hL); clear h_4; have i_5 := Lib.hid (i_4.out.next hL); clear i_4; have j_5 := Lib.hid (j_4.out.next hL); clear j_4; clear hM4 hs4; clear hL) | ((with_reducible show wpList _ _ _ _ _ w5); refine load_gd (w := w5) (by rfl) _ rfl Gj gdt K T0 T1 true true 0 0 (by rfl) j_5.out HK.out H0.out H1.out ?_) | (go_at_call 32; (with_reducible show Calls _ _ _ w5 _); refine (Both_tt K T0 T1 0 0 w5 HK.out H0.out H1.out).mono ?_; rintro e w6 ⟨rfl, hL⟩; have hM6 : Below N w w6 := below_more hM5 hL hs5; have hs6 : N ≤ w6.heap.size := Nat.le_trans hs5 (hL).size; have E_6 := Lib.hid (E_5.out.below hL); clear E_5; have g_6 := Lib.hid (g_5.out.next hL); clear g_5; have h_6 := Lib.hid (h_5.out.next hL); clear h_5; have i_6 := Lib.hid (i_5.out.next hL); clear i_5; have j_6 := Lib.hid (j_5.out.next hL); clear j_5; clear hM5 hs5; clear hL) | ((with_reducible show wpList _ _ _ _ _ w6); refine load_gd (w := w6) (by rfl) _ rfl Gh gdt K T0 T1 true false 0 0 (by rfl) h_6.out HK.out H0.out H1.out ?_) | (go_at_call 32; (with_reducible show Calls _ _ _ w6 _); refine (Both_tf K T0 T1 0 0 w6 HK.out H0.out H1.out).mono ?_; rintro e w7 ⟨vb, rfl, hV, hL⟩; have hM7 : Below N w w7 := below_more hM6 hL hs6; have hs7 : N ≤ w7.heap.size := Nat.le_trans hs6 (hL).size; have E_7 := Lib.hid (E_6.out.below hL); clear E_6; have g_7 := Lib.hid (g_6.out.next hL); clear g_6; have h_7 := Lib.hid (h_6.out.next hL); clear h_6; have i_7 := Lib.hid (i_6.out.next hL); clear i_6; have j_7 := Lib.hid (j_6.out.next hL); clear j_6; clear hM6 hs6; have V_7 := Lib.hid (hV); clear hL hV) | (go_at_call 17; (with_reducible show Calls _ _ _ w7 _); refine (At_yes 1 [] 11 _ w7 E_7.out V_7.out).mono ?_; rintro e w8 ⟨rfl, hL⟩; have hM8 : Below N w w8 := below_more hM7 hL hs7; have hs8 : N ≤ w8.heap.size := Nat.le_trans hs7 (hL).size; have E_8 := Lib.hid (E_7.out.below hL); clear E_7; have g_8 := Lib.hid (g_7.out.next hL); clear g_7; have h_8 := Lib.hid (h_7.out.next hL); clear h_7; have i_8 := Lib.hid (i_7.out.next hL); clear i_7; have j_8 := Lib.hid (j_7.out.next hL); clear j_7; have V_8 := Lib.hid (V_7.out.below hL); clear V_7; clear hM7 hs7; clear hL; have cb := i_8.out.bad0 HK.out H0.out H1.out; have ci := i_8.out.in0 HK.out H0.out H1.out))
  go_ret
  exact ⟨rfl, by rw [HN.out]; exact hM8⟩
end Go.Proofs.YtbbfjlnkhenbiaaGreatDoor
