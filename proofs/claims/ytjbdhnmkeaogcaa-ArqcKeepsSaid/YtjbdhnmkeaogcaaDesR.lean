/- DES: the round keys. -/
import Derived.Test.YtjbdhnmkeaogcaaDesN
set_option linter.unusedVariables false
set_option linter.unusedSimpArgs false
namespace Lk
open Go Go.RowKit
/-- the k-th number -/
def gN (l : List Nat) (k : Nat) : Nat := l.getD k 0
/-- numbers as cells -/
def Ns (l : List Nat) : Array Value := (l.map fun x => Value.int .u64 (nv x)).toArray
theorem Ns_size (l : List Nat) : (Ns l).size = l.length := by simp [Ns]
theorem Ns_get (l : List Nat) (k : Nat) (h : k < l.length) : (Ns l)[k]? = some (.int .u64 (nv (gN l k))) := by
  simp [Ns, h, gN]
theorem Ns_set (l : List Nat) (k : Nat) (x : Nat) : (Ns l).setIfInBounds k (.int .u64 (nv x)) = Ns (l.set k x) := by
  simp [Ns, List.map_set]
theorem Ns_one (l : List Nat) : (Ns l).all (·.oneCell') = true := by
  rw [Array.all_eq_true]
  intro i hi
  simp [Ns, Value.oneCell']
/-- the block g holds these numbers, and may be written -/
def NBlk (w : World) (g : Nat) (T : TypeId) (l : List Nat) : Prop := w.heap[g]? = some (.cells (Ns l) T (0, 0))
theorem NBlk.lt {w : World} {g T : Nat} {l : List Nat} (h : NBlk w g T l) : g < w.heap.size := (Array.getElem?_eq_some_iff.1 h).1
theorem NBlk.cell {w : World} {g T : Nat} {l : List Nat} (h : NBlk w g T l) (k : Nat) (hk : k < l.length) : w.cell? ⟨g, k, none⟩ = some (.int .u64 (nv (gN l k))) := by
  rw [cell_of_row w g k _ T _ h]; exact Ns_get l k hk
theorem NBlk.free {w : World} {g T : Nat} {l : List Nat} (h : NBlk w g T l) (k : Nat) : w.frozen? ⟨g, k, none⟩ = false := frozen_of_row w g k _ T h
theorem NBlk.set {w : World} {g T : Nat} {l : List Nat} (h : NBlk w g T l) (k : Nat) (x : Nat) : NBlk (w.setCell ⟨g, k, none⟩ (.int .u64 (nv x))) g T (l.set k x) := by
  unfold NBlk
  rw [heap_setCell_same w g k _ T _ h, Ns_set]
theorem NBlk.old {w w1 : World} {g T : Nat} {l : List Nat} (h : NBlk w g T l) {row : Option Nat} (hG : w.grownBy w1 row) (hne : row ≠ some g) : NBlk w1 g T l := by
  unfold NBlk
  rw [hG.block g h.lt (fun e => hne e.symm)]; exact h
theorem NBlk.below {w w1 : World} {g T B : Nat} {l : List Nat} (h : NBlk w g T l) (hG : Below B w w1) (hne : g < B) : NBlk w1 g T l := by
  unfold NBlk
  rw [hG.block g hne]; exact h
theorem NBlk.drewN {w : World} {g T : Nat} {l : List Nat} (h : NBlk w g T l) (n : Nat) : NBlk (w.drewN n) g T l := h
theorem NBlk.row {w : World} {g T n : Nat} {l : List Nat} (h : NBlk w g T l) (hl : l.length = n) : Row w g T n := ⟨_, h, by rw [Ns_size, hl]⟩
section
variable {P : Program} {ops : Array Oper} {rest : List Oper} {o : Oper} {a : Act} {w : World} {Q : Exit → Act → World → Prop}
theorem load_nblk (hgd : o.guard = none) (ty : TypeId) (x : Operand) (ho : o.op = .load ty x) (g T n e : Nat) (l : List Nat) (hx : a.eval x = .pointer (some ⟨g, 0, none⟩)) (hB : NBlk w g T l) (hl : l.length = n)
    (hu : P.underlying ty = some (.array n e)) (hi : (P.info? ty).map (·.size) = some n)
    (h : wpList P ops Q rest (a.put o.dst (.agg (Ns l))) w) : wpList P ops Q (o :: rest) a w :=
  wpList_load_row hgd ty x ho g hx T (Ns l) (0, 0) _ hB hu rfl (by rw [Ns_size, hl, hi]) h
theorem store_nblk (hgd : o.guard = none) (ty : TypeId) (x y : Operand) (ho : o.op = .store ty x y) (g T n : Nat) (l : List Nat) (hx : a.eval x = .pointer (some ⟨g, 0, none⟩)) (hy : a.eval y = .agg (Ns l)) (hR : Row w g T n) (hl : l.length = n)
    (hi : (P.info? ty).map (·.size) = some n)
    (h : ∀ w1, NBlk w1 g T l → w.grownBy w1 (some g) → w1.heap.size = w.heap.size → wpList P ops Q rest (a.put o.dst undef) w1) : wpList P ops Q (o :: rest) a w := by
  obtain ⟨old, hg, hs⟩ := hR
  refine wpList_store_row hgd ty x y ho g (Ns l) hx hy T old hg (by rw [Ns_size, hl, hi]) (by rw [hs, Ns_size, hl]) (Ns_one l) ?_
  refine h _ ?_ ?_ (size_setRow w g _)
  · exact setRow_heap w g old _ T _ hg
  · exact ⟨rfl, rfl, rfl, Nat.le_of_eq (size_setRow w g _).symm, fun i hi hr => setRow_other w g i _ (by rintro rfl; exact hr rfl)⟩
theorem results_nblk1 {fn : Func} {p : Tmp} {ty : TypeId} (h : fn.results = #[.cell p ty]) (tmps : Array Value) (w : World) (g T n e : Nat) (l : List Nat)
    (hp : tmps.getD p undef = .pointer (some ⟨g, 0, none⟩)) (hg : NBlk w g T l) (hl : l.length = n)
    (hu : P.underlying ty = some (.array n e)) (hi : (P.info? ty).map (·.size) = some n) :
    (results fn tmps).run P w = .ok (.agg (Ns l)) w :=
  results_cell_row h tmps w g T (Ns l) (0, 0) (.array n e) hp hg hu rfl (by rw [Ns_size, hl, hi])
end
/-- by how much a round turns -/
def shOf (r : Nat) : Nat := if r = 0 ∨ r = 1 ∨ r = 8 ∨ r = 15 then 1 else 2
/-- both halves ahead of round r -/
def cdTo (x : Nat) : Nat → Nat × Nat
  | 0 => (x / 2 ^ 28, x &&& 268435455)
  | r + 1 => (rot28 (cdTo x r).1 (shOf r), rot28 (cdTo x r).2 (shOf r))
def dkeyOf (x r : Nat) : Nat := perm ((cdTo x (r + 1)).1 * 2 ^ 28 ||| (cdTo x (r + 1)).2) 56 tabPC2
def keysTo (x k : Nat) : List Nat := (List.range 16).map fun i => if i < k then dkeyOf x i else 0
def dkeys (b : List UInt8) : List Nat := keysTo (perm (num b) 64 tabPC1) 16
theorem keysTo_len (x k : Nat) : (keysTo x k).length = 16 := by simp [keysTo]
theorem dkeys_len (b : List UInt8) : (dkeys b).length = 16 := keysTo_len _ _
theorem keysTo_set (x k : Nat) (hk : k < 16) : (keysTo x k).set k (dkeyOf x k) = keysTo x (k + 1) := by
  apply List.ext_getElem
  · simp [keysTo]
  · intro i h1 h2
    rw [List.getElem_set]
    simp only [keysTo, List.getElem_map, List.getElem_range]
    by_cases h : k = i
    · subst h; simp
    · by_cases h' : i < k
      · rw [if_neg h, if_pos h', if_pos (by omega)]
      · rw [if_neg h, if_neg h', if_neg (by omega)]
theorem cdTo_lt (x r : Nat) (hx : x < 2 ^ 56) : (cdTo x r).1 < 2 ^ 28 ∧ (cdTo x r).2 < 2 ^ 28 := by
  cases r with
  | zero => exact ⟨by show x / 2 ^ 28 < _; omega, Nat.and_lt_two_pow _ (by decide)⟩
  | succ r => exact ⟨rot28_lt _ _, rot28_lt _ _⟩
theorem half_form (x : Nat) (hx : x < 2 ^ 56) : nv x / (268435456 : Int) = nv (x / 2 ^ 28) ∧ bits BinOp.and IntKind.u64 (nv x) 268435455 = nv (x &&& 268435455) := by
  unfold nv
  have e3 : (268435455 : Int) = ((268435455 : Nat) : Int) := rfl
  exact ⟨by simp, by rw [e3, bits_and_u64 _ _ (by omega) (by decide)]⟩
theorem join28 (c d : Nat) (hc : c < 2 ^ 28) (hd : d < 2 ^ 28) : bits BinOp.or IntKind.u64 (IntKind.u64.wrap (nv c * (268435456 : Int))) (nv d) = nv (c * 2 ^ 28 ||| d) ∧ c * 2 ^ 28 ||| d < 2 ^ 64 := by
  unfold nv
  have e1 : (c : Int) * (268435456 : Int) = ((c * 2 ^ 28 : Nat) : Int) := by simp
  rw [e1, wrap_u64 _ (by omega)]
  exact ⟨bits_or_u64 _ _ (by omega) (by omega), Nat.or_lt_two_pow (by omega) (by omega)⟩
theorem len_PC1 : tabPC1.length = 56 := by decide +kernel
theorem len_PC2 : tabPC2.length = 48 := by decide +kernel
theorem perm_PC1_lt (x : Nat) : perm x 64 tabPC1 < 2 ^ 56 := by
  have h := permTo_lt x 64 tabPC1 tabPC1.length
  unfold perm
  exact Nat.lt_of_lt_of_eq h (by rw [len_PC1])
theorem dkeyOf_lt (x r : Nat) : dkeyOf x r < 2 ^ 48 := by
  have h := permTo_lt ((cdTo x (r + 1)).1 * 2 ^ 28 ||| (cdTo x (r + 1)).2) 56 tabPC2 tabPC2.length
  unfold dkeyOf perm
  exact Nat.lt_of_lt_of_eq h (by rw [len_PC2])
end Lk
namespace Go.Proofs.Ytjbdhnmkeaogcaa
open Go.RowKit Lk
set_option maxHeartbeats 1600000 in
set_option maxRecDepth 100000 in
theorem Rounds_any (b : List UInt8) (hb : b.length = 8) (w : World) : Calls Try.prog 50 #[.agg (Bs b)] w fun e w' => e = .returned (.agg (Ns (dkeys b))) ∧ Below w.heap.size w w' := by
  obtain ⟨n, hn⟩ : ∃ n, w.heap.size = n := ⟨_, rfl⟩
  have Hn := Lib.hid hn
  have HNB := Lib.hid hb
  have hP := fun w => permute_PC1 (num b) w (num_lt b)
  have hx := perm_PC1_lt (num b)
  obtain ⟨x, ex⟩ : ∃ x, perm (num b) 64 tabPC1 = x := ⟨_, rfl⟩
  rw [ex] at hx
  simp only [ex] at hP
  have HP := Lib.hid hP
  have EX := Lib.hid ex
  obtain ⟨hh1, hh2⟩ := half_form x hx
  clear hP ex
  go_enter Try.func50, Try.ntmps50
  go_wp2_with (first
    | (refine box_blk (w := w) rfl 23 _ rfl b rfl ?_; intro w0 hB0 hG0 hs0)
    | (refine alloc_row (w := w0) rfl 89 rfl (.agg (Ns (List.replicate 16 0))) 16 (fun _ => by kernel_rfl) rfl ?_; intro w1 hR1 _ hG1 hs1)
    | (refine alloc_row (w := w1) rfl 89 rfl (.agg (Ns (List.replicate 16 0))) 16 (fun _ => by kernel_rfl) rfl ?_; intro w2 _ hB2 hG2 hs2)
    | (refine load_blk (w := w2) rfl 23 _ rfl w.heap.size 23 8 5 b rfl ((hB0.old hG1 (by simp)).old hG2 (by simp)) HNB.out (by kernel_rfl) (by kernel_rfl) ?_)
    | (go_at_call 52; refine (number_any b HNB.out _).mono ?_; rintro e w3 ⟨rfl, hG3⟩)
    | (go_at_call 51; refine (HP.out _).mono ?_; rintro e w4 ⟨rfl, hD4⟩))
  have e0 : w0.heap.size = n + 1 := by omega
  have e1 : w1.heap.size = n + 2 := by omega
  have e2 : w2.heap.size = n + 3 := by omega
  have hB : NBlk w2 (n + 1 + 1) 89 (keysTo x 0) := by rw [← e1]; exact hB2
  have hR : Row w2 (n + 1) 89 16 := by rw [e0] at hR1; exact hR1.old hG2 (by simp)
  have hBl : Below n w w2 := below_none (below_none (below_none (Below.refl n w) (by omega) hG0) (by omega) hG1) (by omega) hG2
  rw [e2] at hG3
  have hB' : NBlk w4 (n + 1 + 1) 89 (keysTo x 0) := by obtain ⟨m, rfl⟩ := hD4; exact (hB.below hG3 (by omega)).drewN m
  have hR' : Row w4 (n + 1) 89 16 := by
    obtain ⟨m, rfl⟩ := hD4
    obtain ⟨old, h1, h2⟩ := hR
    exact ⟨old, by show w3.heap[n + 1]? = _; rw [hG3.block (n + 1) (by omega)]; exact h1, h2⟩
  have hBl' : Below n w w4 := by
    obtain ⟨m, rfl⟩ := hD4
    have h3 : Below n w w3 := below_more hBl hG3 (by omega)
    exact ⟨h3.os, h3.tape, h3.output, h3.size, h3.block⟩
  have hsz : n + 3 ≤ w4.heap.size := by obtain ⟨m, rfl⟩ := hD4; have := hG3.size; show n + 3 ≤ w3.heap.size; omega
  clear hB0 hG0 hs0 hR1 hG1 hs1 hB2 hG2 hs2 e0 e1 e2 hB hR hBl hG3 hD4 hn
  go_loopw [5, 6, 16] (fun c d i wr => ∃ k : Nat, k ≤ 16 ∧ i = .int .i64 k ∧ c = .int .u64 (nv (cdTo x k).1) ∧ d = .int .u64 (nv (cdTo x k).2) ∧ NBlk wr (n + 1 + 1) 89 (keysTo x k) ∧ Row wr (n + 1) 89 16 ∧ Below n w wr ∧ n + 3 ≤ wr.heap.size) (fun _ _ i _ => 16 - (intOf i).toNat)
  case atStart => exact ⟨0, by omega, rfl, rfl, rfl, hB', hR', hBl', hsz⟩
  case round =>
    clear hB' hR' hBl' hsz hh1 hh2
    obtain ⟨k, hk, rfl, rfl, rfl, hB, hR, hBl, hsz⟩ := hrel
    have hcl := cdTo_lt x k hx
    obtain ⟨c, ec⟩ : ∃ c, (cdTo x k).1 = c := ⟨_, rfl⟩
    obtain ⟨d, ed⟩ : ∃ d, (cdTo x k).2 = d := ⟨_, rfl⟩
    rw [ec, ed] at hcl ⊢
    obtain ⟨hcl, hdl⟩ := hcl
    have EC := Lib.hid ec
    have ED := Lib.hid ed
    by_cases hlt : k < 16
    · have HT1 := Lib.hid (show ∀ (y : Nat) (hy : y < 2 ^ 28) (w : World), Calls Try.prog 72 #[.int .u64 (nv y), .int .i64 (1 : Int)] w fun e w' => e = .returned (.int .u64 (nv (rot28 y 1))) ∧ Drawn w w' from fun y hy w => turn28_any y 1 hy (.inl rfl) w)
      have HT2 := Lib.hid (show ∀ (y : Nat) (hy : y < 2 ^ 28) (w : World), Calls Try.prog 72 #[.int .u64 (nv y), .int .i64 (2 : Int)] w fun e w' => e = .returned (.int .u64 (nv (rot28 y 2))) ∧ Drawn w w' from fun y hy w => turn28_any y 2 hy (.inr rfl) w)
      obtain ⟨hj1, hy1⟩ := join28 (rot28 c 1) (rot28 d 1) (rot28_lt _ _) (rot28_lt _ _)
      obtain ⟨hj2, hy2⟩ := join28 (rot28 c 2) (rot28 d 2) (rot28_lt _ _) (rot28_lt _ _)
      obtain ⟨y1, ey1⟩ : ∃ y, rot28 c 1 * 2 ^ 28 ||| rot28 d 1 = y := ⟨_, rfl⟩
      obtain ⟨y2, ey2⟩ : ∃ y, rot28 c 2 * 2 ^ 28 ||| rot28 d 2 = y := ⟨_, rfl⟩
      rw [ey1] at hj1 hy1
      rw [ey2] at hj2 hy2
      have FIN : ∀ (M s y : Nat), shOf k = s → y = rot28 c s * 2 ^ 28 ||| rot28 d s → ∃ k' : Nat, k' ≤ 16 ∧ Value.int .i64 ((k : Int) + 1) = .int .i64 k' ∧ Value.int .u64 (nv (rot28 c s)) = .int .u64 (nv (cdTo x k').1) ∧ Value.int .u64 (nv (rot28 d s)) = .int .u64 (nv (cdTo x k').2) ∧
          NBlk ((wr.drewN M).setCell ⟨n + 1 + 1, k, none⟩ (.int .u64 (nv (perm y 56 tabPC2)))) (n + 1 + 1) 89 (keysTo x k') ∧ Row ((wr.drewN M).setCell ⟨n + 1 + 1, k, none⟩ (.int .u64 (nv (perm y 56 tabPC2)))) (n + 1) 89 16 ∧ Below n w ((wr.drewN M).setCell ⟨n + 1 + 1, k, none⟩ (.int .u64 (nv (perm y 56 tabPC2)))) ∧ n + 3 ≤ ((wr.drewN M).setCell ⟨n + 1 + 1, k, none⟩ (.int .u64 (nv (perm y 56 tabPC2)))).heap.size := by
        intro M s y hs hy
        have hG : wr.grownBy ((wr.drewN M).setCell ⟨n + 1 + 1, k, none⟩ (.int .u64 (nv (perm y 56 tabPC2)))) (some (n + 1 + 1)) := grown_set (grown_drewN (grown_refl _ _) _) _ _
        have e1 : (cdTo x (k + 1)).1 = rot28 c s := by show rot28 _ _ = _; rw [ec, hs]
        have e2 : (cdTo x (k + 1)).2 = rot28 d s := by show rot28 _ _ = _; rw [ed, hs]
        refine ⟨k + 1, hlt, by go_num, by rw [e1], by rw [e2], ?_, hR.old hG (by simp), below_new hBl (by omega) hG (by omega), by rw [World.size_setCell]; exact hsz⟩
        have ek : dkeyOf x k = perm y 56 tabPC2 := by unfold dkeyOf; rw [e1, e2, hy]
        rw [← keysTo_set x k hlt, ek]
        exact (hB.drewN M).set k _
      have HY1 := Lib.hid hy1
      clear ec ed
      have HY2 := Lib.hid hy2
      have HCL := Lib.hid hcl
      have HDL := Lib.hid hdl
      have HLT := Lib.hid hlt
      have EY1 := Lib.hid ey1
      have EY2 := Lib.hid ey2
      have c1 : wr.cell? ⟨n + 1 + 1, k, none⟩ = some (.int .u64 (nv (gN (keysTo x k) k))) := hB.cell k (by rw [keysTo_len]; exact hlt)
      have f1 : wr.frozen? ⟨n + 1 + 1, k, none⟩ = false := hB.free k
      have HB := Lib.hid hB
      have HF := Lib.hid FIN
      clear FIN hy1 hy2 ey1 ey2 hcl hdl hB hR hBl
      have hcase : k = 0 ∨ k = 1 ∨ k = 8 ∨ k = 15 ∨ (k ≠ 0 ∧ k ≠ 1 ∧ k ≠ 8 ∧ k ≠ 15) := by omega
      rcases hcase with h | h | h | h | h
      · have hb0 : ((k : Int) == 0) = true := by simp [h]
        have hb1 : ((k : Int) == 1) = false := by simp; omega
        have hb8 : ((k : Int) == 8) = false := by simp; omega
        have hb15 : ((k : Int) == 15) = false := by simp; omega
        have HS := Lib.hid (show shOf k = 1 by simp [shOf, h])
        clear h
        go_wp2_with (first
          | (go_at_call 72; (with_reducible refine (HT1.out c HCL.out _).mono ?_); rintro e w' ⟨rfl, ⟨m, rfl⟩⟩)
          | (go_at_call 72; (with_reducible refine (HT1.out d HDL.out _).mono ?_); rintro e w' ⟨rfl, ⟨m', rfl⟩⟩)
          | (go_at_call 51; refine (permute_PC2 y1 _ HY1.out).mono ?_; rintro e w' ⟨rfl, ⟨m'', rfl⟩⟩))
        go_roundw
        case rel => exact HF.out _ _ _ HS.out (by rw [EY1.out])
        case measure => have : k < 16 := HLT.out; simp [intOf]; omega
      · have hb0 : ((k : Int) == 0) = false := by simp; omega
        have hb1 : ((k : Int) == 1) = true := by simp [h]
        have hb8 : ((k : Int) == 8) = false := by simp; omega
        have hb15 : ((k : Int) == 15) = false := by simp; omega
        have HS := Lib.hid (show shOf k = 1 by simp [shOf, h])
        clear h
        go_wp2_with (first
          | (go_at_call 72; (with_reducible refine (HT1.out c HCL.out _).mono ?_); rintro e w' ⟨rfl, ⟨m, rfl⟩⟩)
          | (go_at_call 72; (with_reducible refine (HT1.out d HDL.out _).mono ?_); rintro e w' ⟨rfl, ⟨m', rfl⟩⟩)
          | (go_at_call 51; refine (permute_PC2 y1 _ HY1.out).mono ?_; rintro e w' ⟨rfl, ⟨m'', rfl⟩⟩))
        go_roundw
        case rel => exact HF.out _ _ _ HS.out (by rw [EY1.out])
        case measure => have : k < 16 := HLT.out; simp [intOf]; omega
      · have hb0 : ((k : Int) == 0) = false := by simp; omega
        have hb1 : ((k : Int) == 1) = false := by simp; omega
        have hb8 : ((k : Int) == 8) = true := by simp [h]
        have hb15 : ((k : Int) == 15) = false := by simp; omega
        have HS := Lib.hid (show shOf k = 1 by simp [shOf, h])
        clear h
        go_wp2_with (first
          | (go_at_call 72; (with_reducible refine (HT1.out c HCL.out _).mono ?_); rintro e w' ⟨rfl, ⟨m, rfl⟩⟩)
          | (go_at_call 72; (with_reducible refine (HT1.out d HDL.out _).mono ?_); rintro e w' ⟨rfl, ⟨m', rfl⟩⟩)
          | (go_at_call 51; refine (permute_PC2 y1 _ HY1.out).mono ?_; rintro e w' ⟨rfl, ⟨m'', rfl⟩⟩))
        go_roundw
        case rel => exact HF.out _ _ _ HS.out (by rw [EY1.out])
        case measure => have : k < 16 := HLT.out; simp [intOf]; omega
      · have hb0 : ((k : Int) == 0) = false := by simp; omega
        have hb1 : ((k : Int) == 1) = false := by simp; omega
        have hb8 : ((k : Int) == 8) = false := by simp; omega
        have hb15 : ((k : Int) == 15) = true := by simp [h]
        have HS := Lib.hid (show shOf k = 1 by simp [shOf, h])
        clear h
        go_wp2_with (first
          | (go_at_call 72; (with_reducible refine (HT1.out c HCL.out _).mono ?_); rintro e w' ⟨rfl, ⟨m, rfl⟩⟩)
          | (go_at_call 72; (with_reducible refine (HT1.out d HDL.out _).mono ?_); rintro e w' ⟨rfl, ⟨m', rfl⟩⟩)
          | (go_at_call 51; refine (permute_PC2 y1 _ HY1.out).mono ?_; rintro e w' ⟨rfl, ⟨m'', rfl⟩⟩))
        go_roundw
        case rel => exact HF.out _ _ _ HS.out (by rw [EY1.out])
        case measure => have : k < 16 := HLT.out; simp [intOf]; omega
      · have hb0 : ((k : Int) == 0) = false := by simp; omega
        have hb1 : ((k : Int) == 1) = false := by simp; omega
        have hb8 : ((k : Int) == 8) = false := by simp; omega
        have hb15 : ((k : Int) == 15) = false := by simp; omega
        have HS := Lib.hid (show shOf k = 2 by simp [shOf, h])
        clear h
        go_wp2_with (first
          | (go_at_call 72; (with_reducible refine (HT2.out c HCL.out _).mono ?_); rintro e w' ⟨rfl, ⟨m, rfl⟩⟩)
          | (go_at_call 72; (with_reducible refine (HT2.out d HDL.out _).mono ?_); rintro e w' ⟨rfl, ⟨m', rfl⟩⟩)
          | (go_at_call 51; refine (permute_PC2 y2 _ HY2.out).mono ?_; rintro e w' ⟨rfl, ⟨m'', rfl⟩⟩))
        go_roundw
        case rel => exact HF.out _ _ _ HS.out (by rw [EY2.out])
        case measure => have : k < 16 := HLT.out; simp [intOf]; omega
    · clear ec ed
      have HE := Lib.hid (show k = 16 by omega)
      have HB := Lib.hid (show NBlk wr (n + 1 + 1) 89 (dkeys b) from by unfold dkeys; rw [EX.out, ← HE.out]; exact hB)
      have HBl := Lib.hid hBl
      clear hB hBl
      go_wp2_with (first
        | (refine load_nblk rfl 89 _ rfl (n + 1 + 1) 89 16 88 (dkeys b) rfl HB.out (dkeys_len b) (by kernel_rfl) (by kernel_rfl) ?_)
        | (refine store_nblk rfl 89 _ _ rfl (n + 1) 89 16 (dkeys b) rfl rfl hR (dkeys_len b) (by kernel_rfl) ?_; intro w8 hB8 hG8 hs8))
      refine bodyPost_ret (results_nblk1 rfl _ _ (n + 1) 89 16 88 (dkeys b) rfl hB8 (dkeys_len b) (by kernel_rfl) (by kernel_rfl)) rfl ⟨rfl, ?_⟩
      rw [Hn.out]; exact below_new HBl.out (by omega) hG8 (by omega)
end Go.Proofs.Ytjbdhnmkeaogcaa
