/- Chains: a byte of a mark in memory; a string's bytes; a slice of known length. -/
import Derived.Test.YtpfmhohldfnhmaaKAU1
import Derived.Test.YtpfmhohldfnhmaaKG0
import Derived.Laws.IdiomStrings
import Derived.Test.YtpfmhohldfnhmaaKR7
import Derived.Test.YtpfmhohldfnhmaaKB4
import Derived.Laws.StructEq
set_option linter.unusedVariables false
set_option linter.unusedSimpArgs false
namespace Lk
open Go Go.RowKit
theorem ChB.vb {w : World} {g T : Nat} {c : Int} {m : List UInt8} (h : ChB w g T c m) : VB w g T ([Value.int .i64 c] ++ (Bl m ++ [])) := by
  unfold ChB at h; unfold VB; rw [h, ch_list]
theorem ChB.ofVb {w : World} {g T : Nat} {c : Int} {m : List UInt8} (h : VB w g T ([Value.int .i64 c] ++ (Bl m ++ []))) : ChB w g T c m := by
  unfold VB at h; unfold ChB; rw [h, ch_list]
theorem ch_set (c : Int) (m : List UInt8) (k : Nat) (b : UInt8) : ([Value.int .i64 c] ++ (Bl m ++ [])).set (1 + k) (.int .u8 (bv b)) = [Value.int .i64 c] ++ (Bl (m.set k b) ++ []) := by
  rw [Nat.add_comm 1 k]
  simp [Bl, List.map_set]
theorem ch_at (c : Int) (m : List UInt8) (k : Nat) (hk : k < m.length) : ([Value.int .i64 c] ++ (Bl m ++ []))[1 + k]? = some (.int .u8 (bv (g8 m k))) := by
  rw [Nat.add_comm 1 k]
  simp [Bl, hk, g8]
section
variable {P : Program} {ops : Array Oper} {rest : List Oper} {o : Oper} {a : Act} {w : World} {Q : Exit → Act → World → Prop}
theorem store_chm (hgd : o.guard = none) (ty : TypeId) (x y : Operand) (ho : o.op = .store ty x y) (g k T : Nat) (c : Int) (m : List UInt8) (b : UInt8) (hx : a.eval x = .pointer (some ⟨g, 1 + k, none⟩)) (hy : a.eval y = .int .u8 (bv b)) (hB : ChB w g T c m) (hk : k < m.length)
    (hi : (P.info? ty).map (·.size) = some 1)
    (h : ∀ w1, ChB w1 g T c (m.set k b) → w.grownBy w1 (some g) → w1.heap.size = w.heap.size → wpList P ops Q rest (a.put o.dst undef) w1) : wpList P ops Q (o :: rest) a w :=
  store_vb1 hgd ty x y ho g (1 + k) T _ (.int .u8 (bv b)) hx hy rfl hB.vb _ (ch_at c m k hk) hi fun w1 h1 h2 h3 => h w1 (ChB.ofVb (by rw [ch_set] at h1; exact h1)) h2 h3
theorem op_bld1 (hgd : o.guard = none) (ty : TypeId) (x : Operand) (ho : o.op = .build ty #[(0, x)]) (v u : Value) (hx : a.eval x = u) (hr : ∀ w, (Instr.build ty #[(0, u)]).run P w = .ok v w)
    (h : wpList P ops Q rest (a.put o.dst v) w) : wpList P ops Q (o :: rest) a w :=
  wpList_plain hgd fun _ hK => by
    unfold Oper.wp execOp
    simp only [ho, Sem.run_bind]
    have e : (#[(0, x)] : Array (Nat × Operand)).map (fun (i, y) => (i, a.eval y)) = #[(0, u)] := by simp [hx]
    rw [e, hr]
    exact hK _ _ h
theorem store_ch0 (hgd : o.guard = none) (ty : TypeId) (x y : Operand) (ho : o.op = .store ty x y) (g T : Nat) (c c' : Int) (m : List UInt8) (hx : a.eval x = .pointer (some ⟨g, 0, none⟩)) (hy : a.eval y = .int .i64 c') (hB : ChB w g T c m)
    (hi : (P.info? ty).map (·.size) = some 1)
    (h : ∀ w1, ChB w1 g T c' m → w.grownBy w1 (some g) → w1.heap.size = w.heap.size → wpList P ops Q rest (a.put o.dst undef) w1) : wpList P ops Q (o :: rest) a w :=
  store_vb1 hgd ty x y ho g 0 T _ (.int .i64 c') hx hy rfl hB.vb _ rfl hi fun w1 h1 h2 h3 => h w1 (ChB.ofVb h1) h2 h3
end
theorem SlB.sure {w : World} {v : Value} {l : List UInt8} {n : Nat} (h : SlB w v l) (hn : l.length = n) (h0 : 0 < n) : ∃ g o c, v = .slice (some ⟨g, o, none⟩) n c ∧ n ≤ c ∧ Rd w g o l ∧ g < w.heap.size := by
  obtain ⟨A, c, rfl, _, h1, _, h2⟩ := h
  obtain ⟨g, o, rfl, hr⟩ := h2 (by omega)
  exact ⟨g, o, c, by rw [hn], by omega, hr, block_of_cell (hr 0 (by omega))⟩
/-- the first k bytes of m, then zeros -/
def mto (m : List UInt8) (k : Nat) : List UInt8 := m.take k ++ List.replicate (m.length - k) 0
theorem mto_len (m : List UInt8) (k : Nat) (hk : k ≤ m.length) : (mto m k).length = m.length := by simp [mto]; omega
theorem mto_zero (m : List UInt8) : mto m 0 = List.replicate m.length 0 := by simp [mto]
theorem mto_all (m : List UInt8) : mto m m.length = m := by simp [mto]
theorem mto_set (m : List UInt8) (k : Nat) (hk : k < m.length) : (mto m k).set k (g8 m k) = mto m (k + 1) := by
  apply List.ext_getElem?
  intro i
  unfold mto
  rw [List.getElem?_set]
  by_cases e : k = i
  · subst e
    rw [if_pos rfl, if_pos (by simp; omega), List.getElem?_append_left (by simp; omega), List.getElem?_take_of_lt (by omega)]
    simp [g8, hk]
  · rw [if_neg e]
    by_cases h : i < k
    · rw [List.getElem?_append_left (by simp; omega), List.getElem?_append_left (by simp; omega), List.getElem?_take_of_lt h, List.getElem?_take_of_lt (by omega)]
    · rw [List.getElem?_append_right (by simp; omega), List.getElem?_append_right (by simp; omega)]
      simp only [List.length_take, List.getElem?_replicate]
      by_cases h2 : i < m.length
      · rw [if_pos (by omega), if_pos (by omega)]
      · rw [if_neg (by omega), if_neg (by omega)]
end Lk
namespace Go.Proofs.Ytpfmhohldfnhmaa
open Go Go.RowKit Lk
theorem conv_bytes (w : World) (s : ByteArray) : (convert 9 22 (.string s)).run Try.prog w = .ok (.slice (some ⟨w.heap.size, 0, none⟩) s.size (grownCap w s.size 0 5)) (Lib.bytesWorld w 5 s) :=
  Lib.run_convert_string_bytes w 9 22 5 s (u := .string) (by kernel_rfl) (by kernel_rfl) (by kernel_rfl)
theorem bytes_world (w : World) (s : ByteArray) (hs : s.size ≤ 1000) : SlB (Lib.bytesWorld w 5 s) (.slice (some ⟨w.heap.size, 0, none⟩) s.size (grownCap w s.size 0 5)) (sb s) ∧ Below w.heap.size w (Lib.bytesWorld w 5 s) := by
  refine ⟨⟨_, grownCap w s.size 0 5, by rw [sb_len], fun h => (by cases h), by rw [sb_len]; exact grownCap_ge _ _ _ _, grownCap_le_maxLen _ _ _ _ (by unfold maxLen; omega), fun _ => ⟨_, _, rfl, fun k hk => ?_⟩⟩, rfl, rfl, rfl, by rw [Lib.bytesWorld_size]; omega, fun i hi => Lib.bytesWorld_at_old w _ s i (by omega)⟩
  rw [Nat.zero_add, Lib.bytesWorld_cell w 5 s k (by rw [← sb_len]; exact hk)]
  unfold g8 sb bv
  rfl
section
variable {ops : Array Oper} {rest : List Oper} {o : Oper} {a : Act} {w : World} {Q : Exit → Act → World → Prop}
theorem op_bytes (hw : Region.wanted o (yielded ops a.tmps) = true) (x : Operand) (ho : o.op = .convert 9 22 x) (s : ByteArray) (hx : a.eval x = .string s) (hs : s.size ≤ 1000)
    (h : ∀ v w1, SlB w1 v (sb s) → Below w.heap.size w w1 → (∀ k, v.ownBlock = some k → w.heap.size ≤ k) → wpList Try.prog ops Q rest (a.put o.dst v) w1) : wpList Try.prog ops Q (o :: rest) a w :=
  wpList_step fun K hK => by
    simp only [hw, if_true]
    unfold Oper.wp execOp
    simp only [ho, hx, Sem.run_bind, conv_bytes w s, Result.andThen_ok]
    have hb := bytes_world w s hs
    exact hK _ _ (h _ _ hb.1 hb.2 (fun k hk => by have : w.heap.size = k := (by simpa [Value.ownBlock] using hk); omega))
end
end Go.Proofs.Ytpfmhohldfnhmaa
set_option linter.unusedVariables false
set_option linter.unusedSimpArgs false
namespace Go.Proofs.Ytpfmhohldfnhmaa
open Go Go.RowKit Lk
theorem wrap_nat (n : Nat) (h : n < 4294967296) : wrap64 ((n : Int) + 1) = ((n + 1 : Nat) : Int) := (IntWalk.wrap64_in _ (by omega)).trans (by omega)
theorem se_of {s : ByteArray} (h : s.size = 0) : s = ByteArray.empty := by
  have := ByteArray.size_eq_zero_iff.1 h
  exact this
end Go.Proofs.Ytpfmhohldfnhmaa
set_option linter.unusedVariables false
set_option linter.unusedSimpArgs false
namespace Go.Proofs.Ytpfmhohldfnhmaa
open Go Go.RowKit Lk
theorem bvx_inj (a b : UInt8) (h : bv a = bv b) : a = b := by
  unfold bv at h
  exact UInt8.toNat_inj.1 (by omega)
/-- the number whose first k bytes these are -/
def bcnt (l : List UInt8) : Nat → Int
  | 0 => 0
  | k + 1 => 256 * bcnt l k + bv (g8 l (k + 1))
theorem bcnt_lt (l : List UInt8) (k : Nat) (hk : k ≤ 4) : 0 ≤ bcnt l k ∧ bcnt l k < 4294967296 := by
  have h : ∀ k, 0 ≤ bcnt l k ∧ bcnt l k < 256 ^ k := by
    intro k
    induction k with
    | zero => exact ⟨by simp [bcnt], by simp [bcnt]⟩
    | succ k ih =>
      have hv : 0 ≤ bv (g8 l (k + 1)) ∧ bv (g8 l (k + 1)) < 256 := ⟨bv_ge _, bv_lt _⟩
      simp only [bcnt, Int.pow_succ]
      omega
  refine ⟨(h k).1, Int.lt_of_lt_of_le (h k).2 ?_⟩
  have : k = 0 ∨ k = 1 ∨ k = 2 ∨ k = 3 ∨ k = 4 := by omega
  rcases this with rfl | rfl | rfl | rfl | rfl <;> decide
end Go.Proofs.Ytpfmhohldfnhmaa
set_option linter.unusedVariables false
set_option linter.unusedSimpArgs false
namespace Lk
open Go Go.RowKit
section
variable {P : Program} {ops : Array Oper} {Q : Exit → Act → World → Prop} {md : Region.Mode} {S : World → Prop}
structure OpHd (P : Program) (ops : Array Oper) (Q : Exit → Act → World → Prop) (i : Nat) (K : Act → World → Prop) (a : Act) (w : World) : Prop where
  h : wpOp P ops Q i K a w
theorem anyH_one (i : Nat) {fuel : Nat} {listed : Array Bool} {a : Act} {w : World} (hr : Region.ready md ops listed = [i])
    (h : OpHd P ops Q i (fun a' w' => S w' ∧ wpAnyH P md ops Q S fuel (listed.setIfInBounds i true) a' w') a w) : wpAnyH P md ops Q S (fuel + 1) listed a w :=
  wpAnyH_all hr (by simp) (fun j hj => by rw [List.mem_singleton] at hj; rw [hj]; exact h.h)
theorem anyH_tk {i : Nat} (d : Option Nat) {oi : Oper} {v : Value} {fuel : Nat} {listed : Array Bool} {a : Act} {w : World} (hi : ops[i]? = some oi) (hd : oi.dst = d)
    (hs : Region.noSelect ops = true) (hf : Region.free md ops listed i = true) (hr : (Region.ready md ops listed).contains i = true)
    (hQ : ∀ c a w, Q (.panic c) (a.put d v) w → Q (.panic c) a w) (hy : YieldsIf P ops S oi v a) (hS : S w)
    (h : wpAnyH P md ops Q S fuel (listed.setIfInBounds i true) (a.put d v) w) : wpAnyH P md ops Q S (fuel + 1) listed a w := by
  subst hd; exact wpAnyH_take hi hs hf hr hQ hy hS h
theorem opH_enter {K : Act → World → Prop} {i : Nat} {o : Oper} {a : Act} {w : World} (d : Option Nat) (hi : ops[i]? = some o) (hd : o.dst = d) (hw : Region.wanted o (yielded ops a.tmps) = true) (f : FuncId) (args : Array Value) (G : Value → World → Prop) (h : (execOp a.eval o).run P w = .ok (.enter f args) w)
    (hc : Calls P f args w fun e w' => ∃ v, e = .returned v ∧ G v w') (hk : ∀ v w', G v w' → K (a.put d v) w') : OpHd P ops Q i K a w := by
  subst hd
  refine ⟨?_⟩
  unfold Go.wpOp
  simp only [hi, hw, if_true]
  refine .inl ?_
  unfold Oper.wp
  rw [h]
  refine hc.mono ?_
  rintro e w' ⟨v, rfl, hG⟩
  exact hk v w' hG
theorem yields_eqc {o : Oper} {a : Act} (hw : Region.wanted o (yielded ops a.tmps) = true) (t r : TypeId) (x y : Operand) (ho : o.op = .binOp .eql t x y r) (xs ys : Array Value) (hx : a.eval x = .agg xs) (hy : a.eval y = .agg ys) (hm : P.eqGuardType P.depth t = false) (b : Bool)
    (hr : ∀ w : World, (binOp .eql t (.agg xs) (.agg ys)).run P w = .ok (.bool b) w) : YieldsIf P ops S o (.bool b) a := .inl ⟨hw, fun w _ => by
    unfold execOp
    simp only [ho, hx, hy, Sem.run_bind, run_eqGuard_agg w .eql t x y xs ys hm, hr, Result.andThen_ok]
    rfl⟩
end
section
variable {P : Program} {ops : Array Oper} {rest : List Oper} {o : Oper} {a : Act} {w : World} {Q : Exit → Act → World → Prop}
theorem op_eqlc (hw : Region.wanted o (yielded ops a.tmps) = true) (t r : TypeId) (x y : Operand) (ho : o.op = .binOp .eql t x y r) (xs ys : Array Value) (hx : a.eval x = .agg xs) (hy : a.eval y = .agg ys) (hm : P.eqGuardType P.depth t = false) (b : Bool)
    (hr : ∀ w : World, (binOp .eql t (.agg xs) (.agg ys)).run P w = .ok (.bool b) w) (h : wpList P ops Q rest (a.put o.dst (.bool b)) w) : wpList P ops Q (o :: rest) a w :=
  wpList_step fun K hK => by
    simp only [hw, if_true]
    unfold Oper.wp execOp
    simp only [ho, hx, hy, Sem.run_bind, run_eqGuard_agg w .eql t x y xs ys hm, hr, Result.andThen_ok]
    exact hK _ _ h
end
end Lk
set_option linter.unusedVariables false
set_option linter.unusedSimpArgs false
namespace Lk
open Go Go.RowKit
section
variable {P : Program} {ops : Array Oper} {rest : List Oper} {o : Oper} {a : Act} {w : World} {Q : Exit → Act → World → Prop}
theorem op_bld0 (hw : Region.wanted o (yielded ops a.tmps) = true) (ty : TypeId) (ho : o.op = .build ty #[]) (v : Value) (hr : ∀ w, (Instr.build ty #[]).run P w = .ok v w)
    (h : wpList P ops Q rest (a.put o.dst v) w) : wpList P ops Q (o :: rest) a w :=
  wpList_step fun K hK => by
    simp only [hw, if_true]
    unfold Oper.wp execOp
    simp only [ho, Sem.run_bind]
    have e : (#[] : Array (Nat × Operand)).map (fun (i, y) => (i, a.eval y)) = #[] := by simp
    rw [e, hr]
    exact hK _ _ h
end
theorem slS_one {w : World} {g : Nat} {s : ByteArray} (h : w.cell? ⟨g, 0, none⟩ = some (.string s)) : SlS w (.slice (some ⟨g, 0, none⟩) 1 1) [s] :=
  ⟨_, 1, rfl, Nat.le_refl _, fun _ => ⟨g, 0, rfl, fun k hk => by
    have : k = 0 := by simpa using hk
    subst this
    exact h⟩⟩
def k23 : List UInt8 := List.replicate 16 0
def n23 : ByteArray := ⟨#[110, 111, 116, 101]⟩
end Lk
namespace Go.Proofs.Ytpfmhohldfnhmaa
open Go Go.RowKit Lk
theorem own_form {w : World} {b : Nat} {v : Value} {l : List UInt8} {n : Nat} (h : Own w b v l) (hl : l.length = n) (h0 : 0 < n) : ∃ g c, v = .slice (some ⟨g, 0, none⟩) n c ∧ n ≤ c := by
  obtain ⟨g, c, e, _, _, _, _, h2⟩ := h.form (by omega)
  exact ⟨g, c, by rw [e, hl], by omega⟩
theorem bld_ch0 (w : World) : (Instr.build cht #[]).run Try.prog w = .ok (.agg (ch 0 (List.replicate 16 0))) w := by kernel_rfl
set_option maxHeartbeats 6400000 in
set_option maxRecDepth 100000 in
theorem awake23 (w : World) : Calls Try.prog 6 #[] w fun e w' => e = .returned (.bool true) ∧ Below w.heap.size w w' := by
  obtain ⟨N, hN⟩ : ∃ N, w.heap.size = N := ⟨_, rfl⟩
  have HN := Lib.hid hN
  obtain ⟨mk, emk⟩ : ∃ x, pcmac 1 (List.replicate 16 0) (List.replicate 16 0 ++ pnum (0 + 1) ++ sb ⟨#[110, 111, 116, 101]⟩) = x := ⟨_, rfl⟩
  have EMK := Lib.hid emk
  have HMK := Lib.hid (show mk.length = 16 by rw [← emk]; exact pcmac_len 1 _ _ (.inl rfl))
  have HE1 := Lib.hid (show ∀ k, k < [(⟨#[110, 111, 116, 101]⟩ : ByteArray)].length → (List.replicate 16 (0 : UInt8)).length = 16 ∧ okNote (gs [⟨#[110, 111, 116, 101]⟩] k) = true from fun k hk => by
    have : k = 0 := by simpa using hk
    subst this
    exact ⟨rfl, by decide⟩)
  have HE2 := Lib.hid (show (((([(⟨#[110, 111, 116, 101]⟩ : ByteArray)].length : Nat) : Int) == 1 && pmarks (List.replicate 16 0) [⟨#[110, 111, 116, 101]⟩] 0 (List.replicate 16 0) == mk) = true) by
    have : pmarks (List.replicate 16 0) [⟨#[110, 111, 116, 101]⟩] 0 (List.replicate 16 0) = mk := emk
    rw [this]; simp)
  have HE3 := Lib.hid (show ((((([] : List ByteArray).length : Nat) : Int) == 0 && pmarks (List.replicate 16 0) [] 0 (List.replicate 16 0) == List.replicate 16 0) = true) by decide)
  clear emk
  have hM0 : Below N w w := Below.refl _ _
  have hs0 : N ≤ w.heap.size := by omega
  go_enter Try.func6, Try.ntmps6
  go_wp2_with (first | ((with_reducible show wpList _ _ _ _ _ w); refine make_new (w := w) rfl 22 5 _ _ rfl 16 (by kernel_rfl) (by kernel_rfl) .i64 .i64 rfl rfl (by omega) ?_; intro w1 hB hG hz; have hL : Below w.heap.size w w1 := below_none (Below.refl _ _) (Nat.le_refl _) hG; obtain ⟨gk, eg⟩ : ∃ g, w.heap.size = g := ⟨_, rfl⟩; have hB2 : SlB w1 (.slice (some ⟨gk, 0, none⟩) 16 16) (List.replicate 16 0) := (by rw [← eg]; exact hB.slB (n := 16) (by simp) (by decide)); rw [eg]; clear hB hG hz eg; have hM1 : Below N w w1 := below_more hM0 hL hs0; have hs1 : N ≤ w1.heap.size := Nat.le_trans hs0 (hL).size; clear hM0 hs0; have K_1 := Lib.hid (hB2); clear hL hB2) | ((with_reducible show wpList _ _ _ _ _ w1); refine op_bld0 (w := w1) (by rfl) cht rfl (.agg (ch 0 (List.replicate 16 0))) bld_ch0 ?_) | (go_at_call 10; (with_reducible show Calls _ _ _ w1 _); refine ((Next_yes _ _ 0 (List.replicate 16 0) ⟨#[110, 111, 116, 101]⟩ w1 K_1.out (by simp) (by decide) (by simp) (by decide) (by decide))).mono ?_; rintro e w2c ⟨he9, hLc⟩; rw [EMK.out] at he9; subst he9) | ((with_reducible show wpList _ _ _ _ _ w2c); refine alloc_row (w := w2c) rfl 27 rfl (.agg (ch 0 (List.replicate 16 0))) 17 (fun _ => by kernel_rfl) (by kernel_rfl) ?_; intro w2a hRa _ hGa hza) | ((with_reducible show wpList _ _ _ _ _ w2a); refine store_ch (w := w2a) rfl 27 _ _ rfl w2c.heap.size 27 1 mk (by rfl) (by rfl) hRa HMK.out (by kernel_rfl) ?_; intro w2 hBb hGb hzb; have hL9 : Below w2c.heap.size w2c w2 := below_new (below_none (Below.refl _ _) (Nat.le_refl _) hGa) hGa.size hGb (Nat.le_refl _); have hL : Below w1.heap.size w1 w2 := below_more hLc hL9 hLc.size; obtain ⟨GC, eGx⟩ : ∃ g, w2c.heap.size = g := ⟨_, rfl⟩; have hgB : ChB w2 GC 27 1 mk := (by rw [← eGx]; exact hBb); have HLGC := Lib.hid (show N ≤ GC from (by rw [← eGx]; exact Nat.le_trans hs1 hLc.size)); rw [eGx]; clear hRa hGa hza hBb hGb hzb hLc eGx hL9; have hM2 : Below N w w2 := below_more hM1 hL hs1; have hs2 : N ≤ w2.heap.size := Nat.le_trans hs1 (hL).size; have K_2 := Lib.hid (K_1.out.below hL); clear K_1; clear hM1 hs1; have C_2 := Lib.hid (hgB); clear hL hgB) | (go_at_call 9; (with_reducible show Calls _ _ _ w2 _); refine (Note_yes ⟨#[110, 111, 116, 101]⟩ w2 (by decide) (by decide)).mono ?_; rintro e w3 ⟨vn, rfl, hO, hL⟩; have hM3 : Below N w w3 := below_more hM2 hL hs2; have hs3 : N ≤ w3.heap.size := Nat.le_trans hs2 (hL).size; have K_3 := Lib.hid (K_2.out.below hL); clear K_2; have C_3 := Lib.hid (C_2.out.under hL); clear C_2; clear hM2 hs2; have NN_3 := Lib.hid (hO); clear hO hL; obtain ⟨gn, cn, rfl, hcn⟩ : ∃ gn cn, vn = .slice (some ⟨gn, 0, none⟩) 5 cn ∧ 5 ≤ cn := own_form NN_3.out (by rw [List.length_cons, sb_len]; rfl) (by decide)) | ((with_reducible show wpList _ _ _ _ _ w3); refine load_ch (w := w3) (by rfl) _ rfl GC 27 1 mk (by rfl) C_3.out HMK.out ?_) | (go_at_call 8; (with_reducible show Calls _ _ _ w3 _); refine (Save_any 1 mk w3 (by decide) HMK.out).mono ?_; rintro e w4 ⟨vs, rfl, hO, hL⟩; have hM4 : Below N w w4 := below_more hM3 hL hs3; have hs4 : N ≤ w4.heap.size := Nat.le_trans hs3 (hL).size; have K_4 := Lib.hid (K_3.out.below hL); clear K_3; have C_4 := Lib.hid (C_3.out.under hL); clear C_3; have NN_4 := Lib.hid (NN_3.out.under hL); clear NN_3; clear hM3 hs3; have SS_4 := Lib.hid (hO); clear hO hL; obtain ⟨gq, cq, rfl, hcq⟩ : ∃ gn cn, vs = .slice (some ⟨gn, 0, none⟩) 21 cn ∧ 21 ≤ cn := own_form SS_4.out (by rw [List.length_cons, List.length_append, pnum_len, HMK.out]) (by decide); have cc := C_4.out.count; have cn0 : w4.cell? ⟨gn, 0, none⟩ = some (.int .u8 6) := NN_4.out.cell 0 (by simp); have cs4 : w4.cell? ⟨gq, 4, none⟩ = some (.int .u8 1) := SS_4.out.cell 4 (by simp [HMK.out, pnum_len])) | ((with_reducible show wpList _ _ _ _ _ (World.alloc w4 _)); generalize hwX : World.alloc w4 _ = wx; have hL : Below w4.heap.size w4 wx := (by rw [← hwX]; exact below_alloc (Below.refl _ _) (Nat.le_refl _) _); have hT : wx.cell? ⟨w4.heap.size, 0, none⟩ = some (.string ⟨#[110, 111, 116, 101]⟩) := (by rw [← hwX]; exact cell_alloc_new _ _ 0 _ rfl); clear hwX cc cn0 cs4; have hM5 : Below N w wx := below_more hM4 hL hs4; have hs5 : N ≤ wx.heap.size := Nat.le_trans hs4 (hL).size; have K_5 := Lib.hid (K_4.out.below hL); clear K_4; have C_5 := Lib.hid (C_4.out.under hL); clear C_4; have NN_5 := Lib.hid (NN_4.out.under hL); clear NN_4; have SS_5 := Lib.hid (SS_4.out.under hL); clear SS_4; clear hM4 hs4; have SL_9 := Lib.hid (slS_one hT); clear hT hL; refine load_ch (w := wx) (by rfl) _ rfl GC 27 1 mk (by rfl) C_5.out HMK.out ?_) | (go_at_call 11; (with_reducible show Calls _ _ _ wx _); refine (Check_end _ _ _ [⟨#[110, 111, 116, 101]⟩] 1 mk true wx K_5.out SL_9.out (by decide) HMK.out HE1.out HE2.out).mono ?_; rintro e w6 ⟨rfl, hL⟩; have hM6 : Below N w w6 := below_more hM5 hL hs5; have hs6 : N ≤ w6.heap.size := Nat.le_trans hs5 (hL).size; have K_6 := Lib.hid (K_5.out.below hL); clear K_5; have C_6 := Lib.hid (C_5.out.under hL); clear C_5; have NN_6 := Lib.hid (NN_5.out.under hL); clear NN_5; have SS_6 := Lib.hid (SS_5.out.under hL); clear SS_5; clear hM5 hs5; clear hL) | ((with_reducible show wpList _ _ _ _ _ w6); refine op_bld0 (w := w6) (by rfl) cht rfl (.agg (ch 0 (List.replicate 16 0))) bld_ch0 ?_) | (go_at_call 11; (with_reducible show Calls _ _ _ w6 _); refine (Check_end _ _ _ [] 0 (List.replicate 16 0) true w6 K_6.out (slS_nil _) (by decide) (by simp) (fun k hk => by simp at hk) HE3.out).mono ?_; rintro e w7 ⟨rfl, hL⟩; have hM7 : Below N w w7 := below_more hM6 hL hs6; have hs7 : N ≤ w7.heap.size := Nat.le_trans hs6 (hL).size; have K_7 := Lib.hid (K_6.out.below hL); clear K_6; have C_7 := Lib.hid (C_6.out.under hL); clear C_6; have NN_7 := Lib.hid (NN_6.out.under hL); clear NN_6; have SS_7 := Lib.hid (SS_6.out.under hL); clear SS_6; clear hM6 hs6; clear hL))
  go_ret
  exact ⟨rfl, by first | exact hM7 | (rw [HN.out]; exact hM7)⟩
end Go.Proofs.Ytpfmhohldfnhmaa
