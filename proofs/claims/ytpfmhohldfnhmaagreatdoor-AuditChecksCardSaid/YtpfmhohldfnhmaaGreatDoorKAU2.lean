/- Chains: a byte of a mark in memory; a string's bytes; a slice of known length. -/
import Derived.Test.YtpfmhohldfnhmaaGreatDoorKAU1
import Derived.Test.YtpfmhohldfnhmaaGreatDoorKG0
import Derived.Laws.IdiomStrings
import Derived.Test.YtpfmhohldfnhmaaGreatDoorKR7
import Derived.Test.YtpfmhohldfnhmaaGreatDoorKB4
import Derived.Laws.StructEq
set_option linter.unusedVariables false
set_option linter.unusedSimpArgs false
namespace Lk
open Go Go.RowKit
theorem ChB.vb {w : World} {g T : Nat} {c : Int} {m : List UInt8} (h : ChB w g T c m) : VB w g T ([Value.int .i64 c] ++ (Bl m ++ [])) := by
  unfold ChB at h; unfold VB; rw [h, ch_list]
theorem ChB.ofVb {w : World} {g T : Nat} {c : Int} {m : List UInt8} (h : VB w g T ([Value.int .i64 c] ++ (Bl m ++ []))) : ChB w g T c m := by
  unfold VB at h; unfold ChB; rw [h, ch_list]
theorem ch_set (c : Int) (m : List UInt8) (k : Nat) (b : UInt8) : ([Value.int .i64 c] ++ (Bl m ++ [])).set (1 + k) (.int .u8 (bv b)) = [Value.int .i64 c] ++ (Bl (m.set k b) ++ []) := by
  rw [Nat.add_comm 1 k]
  simp [Bl, List.map_set]
theorem ch_at (c : Int) (m : List UInt8) (k : Nat) (hk : k < m.length) : ([Value.int .i64 c] ++ (Bl m ++ []))[1 + k]? = some (.int .u8 (bv (g8 m k))) := by
  rw [Nat.add_comm 1 k]
  simp [Bl, hk, g8]
section
variable {P : Program} {ops : Array Oper} {rest : List Oper} {o : Oper} {a : Act} {w : World} {Q : Exit → Act → World → Prop}
theorem store_chm (hgd : o.guard = none) (ty : TypeId) (x y : Operand) (ho : o.op = .store ty x y) (g k T : Nat) (c : Int) (m : List UInt8) (b : UInt8) (hx : a.eval x = .pointer (some ⟨g, 1 + k, none⟩)) (hy : a.eval y = .int .u8 (bv b)) (hB : ChB w g T c m) (hk : k < m.length)
    (hi : (P.info? ty).map (·.size) = some 1)
    (h : ∀ w1, ChB w1 g T c (m.set k b) → w.grownBy w1 (some g) → w1.heap.size = w.heap.size → wpList P ops Q rest (a.put o.dst undef) w1) : wpList P ops Q (o :: rest) a w :=
  store_vb1 hgd ty x y ho g (1 + k) T _ (.int .u8 (bv b)) hx hy rfl hB.vb _ (ch_at c m k hk) hi fun w1 h1 h2 h3 => h w1 (ChB.ofVb (by rw [ch_set] at h1; exact h1)) h2 h3
theorem op_bld1 (hgd : o.guard = none) (ty : TypeId) (x : Operand) (ho : o.op = .build ty #[(0, x)]) (v u : Value) (hx : a.eval x = u) (hr : ∀ w, (Instr.build ty #[(0, u)]).run P w = .ok v w)
    (h : wpList P ops Q rest (a.put o.dst v) w) : wpList P ops Q (o :: rest) a w :=
  wpList_plain hgd fun _ hK => by
    unfold Oper.wp execOp
    simp only [ho, Sem.run_bind]
    have e : (#[(0, x)] : Array (Nat × Operand)).map (fun (i, y) => (i, a.eval y)) = #[(0, u)] := by simp [hx]
    rw [e, hr]
    exact hK _ _ h
theorem store_ch0 (hgd : o.guard = none) (ty : TypeId) (x y : Operand) (ho : o.op = .store ty x y) (g T : Nat) (c c' : Int) (m : List UInt8) (hx : a.eval x = .pointer (some ⟨g, 0, none⟩)) (hy : a.eval y = .int .i64 c') (hB : ChB w g T c m)
    (hi : (P.info? ty).map (·.size) = some 1)
    (h : ∀ w1, ChB w1 g T c' m → w.grownBy w1 (some g) → w1.heap.size = w.heap.size → wpList P ops Q rest (a.put o.dst undef) w1) : wpList P ops Q (o :: rest) a w :=
  store_vb1 hgd ty x y ho g 0 T _ (.int .i64 c') hx hy rfl hB.vb _ rfl hi fun w1 h1 h2 h3 => h w1 (ChB.ofVb h1) h2 h3
end
theorem SlB.sure {w : World} {v : Value} {l : List UInt8} {n : Nat} (h : SlB w v l) (hn : l.length = n) (h0 : 0 < n) : ∃ g o c, v = .slice (some ⟨g, o, none⟩) n c ∧ n ≤ c ∧ Rd w g o l ∧ g < w.heap.size := by
  obtain ⟨A, c, rfl, _, h1, _, h2⟩ := h
  obtain ⟨g, o, rfl, hr⟩ := h2 (by omega)
  exact ⟨g, o, c, by rw [hn], by omega, hr, block_of_cell (hr 0 (by omega))⟩
/-- the first k bytes of m, then zeros -/
def mto (m : List UInt8) (k : Nat) : List UInt8 := m.take k ++ List.replicate (m.length - k) 0
theorem mto_len (m : List UInt8) (k : Nat) (hk : k ≤ m.length) : (mto m k).length = m.length := by simp [mto]; omega
theorem mto_zero (m : List UInt8) : mto m 0 = List.replicate m.length 0 := by simp [mto]
theorem mto_all (m : List UInt8) : mto m m.length = m := by simp [mto]
theorem mto_set (m : List UInt8) (k : Nat) (hk : k < m.length) : (mto m k).set k (g8 m k) = mto m (k + 1) := by
  apply List.ext_getElem?
  intro i
  unfold mto
  rw [List.getElem?_set]
  by_cases e : k = i
  · subst e
    rw [if_pos rfl, if_pos (by simp; omega), List.getElem?_append_left (by simp; omega), List.getElem?_take_of_lt (by omega)]
    simp [g8, hk]
  · rw [if_neg e]
    by_cases h : i < k
    · rw [List.getElem?_append_left (by simp; omega), List.getElem?_append_left (by simp; omega), List.getElem?_take_of_lt h, List.getElem?_take_of_lt (by omega)]
    · rw [List.getElem?_append_right (by simp; omega), List.getElem?_append_right (by simp; omega)]
      simp only [List.length_take, List.getElem?_replicate]
      by_cases h2 : i < m.length
      · rw [if_pos (by omega), if_pos (by omega)]
      · rw [if_neg (by omega), if_neg (by omega)]
end Lk
namespace Go.Proofs.YtpfmhohldfnhmaaGreatDoor
open Go Go.RowKit Lk
theorem conv_bytes (w : World) (s : ByteArray) : (convert 9 22 (.string s)).run Tryz.prog w = .ok (.slice (some ⟨w.heap.size, 0, none⟩) s.size (grownCap w s.size 0 5)) (Lib.bytesWorld w 5 s) :=
  Lib.run_convert_string_bytes w 9 22 5 s (u := .string) (by kernel_rfl) (by kernel_rfl) (by kernel_rfl)
theorem bytes_world (w : World) (s : ByteArray) (hs : s.size ≤ 1000) : SlB (Lib.bytesWorld w 5 s) (.slice (some ⟨w.heap.size, 0, none⟩) s.size (grownCap w s.size 0 5)) (sb s) ∧ Below w.heap.size w (Lib.bytesWorld w 5 s) := by
  refine ⟨⟨_, grownCap w s.size 0 5, by rw [sb_len], fun h => (by cases h), by rw [sb_len]; exact grownCap_ge _ _ _ _, grownCap_le_maxLen _ _ _ _ (by unfold maxLen; omega), fun _ => ⟨_, _, rfl, fun k hk => ?_⟩⟩, rfl, rfl, rfl, by rw [Lib.bytesWorld_size]; omega, fun i hi => Lib.bytesWorld_at_old w _ s i (by omega)⟩
  rw [Nat.zero_add, Lib.bytesWorld_cell w 5 s k (by rw [← sb_len]; exact hk)]
  unfold g8 sb bv
  rfl
section
variable {ops : Array Oper} {rest : List Oper} {o : Oper} {a : Act} {w : World} {Q : Exit → Act → World → Prop}
theorem op_bytes (hw : Region.wanted o (yielded ops a.tmps) = true) (x : Operand) (ho : o.op = .convert 9 22 x) (s : ByteArray) (hx : a.eval x = .string s) (hs : s.size ≤ 1000)
    (h : ∀ v w1, SlB w1 v (sb s) → Below w.heap.size w w1 → (∀ k, v.ownBlock = some k → w.heap.size ≤ k) → wpList Tryz.prog ops Q rest (a.put o.dst v) w1) : wpList Tryz.prog ops Q (o :: rest) a w :=
  wpList_step fun K hK => by
    simp only [hw, if_true]
    unfold Oper.wp execOp
    simp only [ho, hx, Sem.run_bind, conv_bytes w s, Result.andThen_ok]
    have hb := bytes_world w s hs
    exact hK _ _ (h _ _ hb.1 hb.2 (fun k hk => by have : w.heap.size = k := (by simpa [Value.ownBlock] using hk); omega))
end
end Go.Proofs.YtpfmhohldfnhmaaGreatDoor
set_option linter.unusedVariables false
set_option linter.unusedSimpArgs false
namespace Go.Proofs.YtpfmhohldfnhmaaGreatDoor
open Go Go.RowKit Lk
theorem wrap_nat (n : Nat) (h : n < 4294967296) : wrap64 ((n : Int) + 1) = ((n + 1 : Nat) : Int) := (IntWalk.wrap64_in _ (by omega)).trans (by omega)
theorem se_of {s : ByteArray} (h : s.size = 0) : s = ByteArray.empty := by
  have := ByteArray.size_eq_zero_iff.1 h
  exact this
set_option maxHeartbeats 6400000 in
set_option maxRecDepth 100000 in
theorem rNext_key (vk : Value) (key : List UInt8) (z : Int) (m : List UInt8) (s : ByteArray) (w : World) (hk : SlB w vk key) (hm : m.length = 16) (h : key.length ≠ 16) : Calls Tryz.prog 33 #[vk, .agg (ch z m), .string s] w fun e w' => e = .returned (.tuple #[.agg (ch z m), .int .i64 2]) ∧ Below w.heap.size w w' := by
  obtain ⟨N, hN⟩ : ∃ N, w.heap.size = N := ⟨_, rfl⟩
  have HN := Lib.hid hN
  have HM := Lib.hid hm
  obtain ⟨L, hL⟩ : ∃ L, key.length = L := ⟨_, rfl⟩
  obtain ⟨Ak, ck, rfl⟩ := hk.form hL
  have i0 : ¬ (L : Int) = 16 := by omega
  clear hL h
  clear hk hm
  have hM0 : Below N w w := Below.refl _ _
  have hs0 : N ≤ w.heap.size := by omega
  go_enter Tryz.func33, Tryz.ntmps33
  go_wp2_with (first | ((with_reducible show wpList _ _ _ _ _ w); refine box_ch (w := w) rfl 55 _ rfl z m (by rfl) ?_; intro u1 hA0 hG0 hz0; have hL : Below w.heap.size w u1 := below_none (Below.refl _ _) (Nat.le_refl _) hG0; rw [hN] at hA0 ⊢; clear hG0 hz0; have hM1 : Below N w u1 := below_more hM0 hL hs0; have hs1 : N ≤ u1.heap.size := Nat.le_trans hs0 (hL).size; clear hM0 hs0; have C_1 := Lib.hid (hA0); clear hL hA0) | ((with_reducible show wpList _ _ _ _ _ u1); refine alloc_row (w := u1) rfl 55 rfl (.agg (ch 0 (List.replicate 16 0))) 17 (fun _ => by kernel_rfl) (by kernel_rfl) ?_; intro u2 _ hR0 hG0 hz0; have hL : Below u1.heap.size u1 u2 := below_none (Below.refl _ _) (Nat.le_refl _) hG0; obtain ⟨GR, eGx⟩ : ∃ g, u1.heap.size = g := ⟨_, rfl⟩; have hR1 : ChB u2 GR 55 0 (List.replicate 16 0) := (by rw [← eGx]; exact hR0); have HLGR := Lib.hid (show N ≤ GR from (by rw [← eGx]; exact hs1)); rw [eGx]; clear hG0 hz0 hR0 eGx; have hM2 : Below N w u2 := below_more hM1 hL hs1; have hs2 : N ≤ u2.heap.size := Nat.le_trans hs1 (hL).size; have C_2 := Lib.hid (C_1.out.under hL); clear C_1; clear hM1 hs1; have R_2 := Lib.hid (hR1); clear hL hR1) | ((with_reducible show wpList _ _ _ _ _ u2); refine load_ch (w := u2) (by rfl) _ rfl N 55 z m (by rfl) C_2.out HM.out ?_) | ((with_reducible show wpList _ _ _ _ _ u2); refine store_ch (w := u2) rfl 55 _ _ rfl GR 55 z m (by rfl) (by rfl) (R_2.out.row (by simp)) HM.out (by kernel_rfl) ?_; intro wz hBz hGz hzz; have hMz : Below N w wz := below_new hM2 hs2 hGz HLGR.out))
  refine bodyPost_ret (results_ch rfl _ _ GR 55 _ m rfl hBz HM.out) rfl ⟨rfl, ?_⟩
  first | exact hMz | (rw [HN.out]; exact hMz)
set_option maxHeartbeats 6400000 in
set_option maxRecDepth 100000 in
theorem rNext_none (vk : Value) (key : List UInt8) (z : Int) (m : List UInt8) (s : ByteArray) (w : World) (hk : SlB w vk key) (hm : m.length = 16) (h : key.length = 16) (h0 : s.size = 0) : Calls Tryz.prog 33 #[vk, .agg (ch z m), .string s] w fun e w' => e = .returned (.tuple #[.agg (ch z m), .int .i64 2]) ∧ Below w.heap.size w w' := by
  obtain ⟨N, hN⟩ : ∃ N, w.heap.size = N := ⟨_, rfl⟩
  have HN := Lib.hid hN
  have HM := Lib.hid hm
  obtain ⟨Ak, ck, rfl⟩ := hk.form h
  obtain rfl : s = ByteArray.empty := se_of h0
  clear h h0
  clear hk hm
  have hM0 : Below N w w := Below.refl _ _
  have hs0 : N ≤ w.heap.size := by omega
  go_enter Tryz.func33, Tryz.ntmps33
  go_wp2_with (first | ((with_reducible show wpList _ _ _ _ _ w); refine box_ch (w := w) rfl 55 _ rfl z m (by rfl) ?_; intro u1 hA0 hG0 hz0; have hL : Below w.heap.size w u1 := below_none (Below.refl _ _) (Nat.le_refl _) hG0; rw [hN] at hA0 ⊢; clear hG0 hz0; have hM1 : Below N w u1 := below_more hM0 hL hs0; have hs1 : N ≤ u1.heap.size := Nat.le_trans hs0 (hL).size; clear hM0 hs0; have C_1 := Lib.hid (hA0); clear hL hA0) | ((with_reducible show wpList _ _ _ _ _ u1); refine alloc_row (w := u1) rfl 55 rfl (.agg (ch 0 (List.replicate 16 0))) 17 (fun _ => by kernel_rfl) (by kernel_rfl) ?_; intro u2 _ hR0 hG0 hz0; have hL : Below u1.heap.size u1 u2 := below_none (Below.refl _ _) (Nat.le_refl _) hG0; obtain ⟨GR, eGx⟩ : ∃ g, u1.heap.size = g := ⟨_, rfl⟩; have hR1 : ChB u2 GR 55 0 (List.replicate 16 0) := (by rw [← eGx]; exact hR0); have HLGR := Lib.hid (show N ≤ GR from (by rw [← eGx]; exact hs1)); rw [eGx]; clear hG0 hz0 hR0 eGx; have hM2 : Below N w u2 := below_more hM1 hL hs1; have hs2 : N ≤ u2.heap.size := Nat.le_trans hs1 (hL).size; have C_2 := Lib.hid (C_1.out.under hL); clear C_1; clear hM1 hs1; have R_2 := Lib.hid (hR1); clear hL hR1) | ((with_reducible show wpList _ _ _ _ _ u2); refine load_ch (w := u2) (by rfl) _ rfl N 55 z m (by rfl) C_2.out HM.out ?_) | ((with_reducible show wpList _ _ _ _ _ u2); refine store_ch (w := u2) rfl 55 _ _ rfl GR 55 z m (by rfl) (by rfl) (R_2.out.row (by simp)) HM.out (by kernel_rfl) ?_; intro wz hBz hGz hzz; have hMz : Below N w wz := below_new hM2 hs2 hGz HLGR.out))
  refine bodyPost_ret (results_ch rfl _ _ GR 55 _ m rfl hBz HM.out) rfl ⟨rfl, ?_⟩
  first | exact hMz | (rw [HN.out]; exact hMz)
set_option maxHeartbeats 6400000 in
set_option maxRecDepth 100000 in
theorem rNext_long (vk : Value) (key : List UInt8) (z : Int) (m : List UInt8) (s : ByteArray) (w : World) (hk : SlB w vk key) (hm : m.length = 16) (h : key.length = 16) (h0 : 60 < s.size) : Calls Tryz.prog 33 #[vk, .agg (ch z m), .string s] w fun e w' => e = .returned (.tuple #[.agg (ch z m), .int .i64 2]) ∧ Below w.heap.size w w' := by
  obtain ⟨N, hN⟩ : ∃ N, w.heap.size = N := ⟨_, rfl⟩
  have HN := Lib.hid hN
  have HM := Lib.hid hm
  obtain ⟨Ak, ck, rfl⟩ := hk.form h
  have i1 : ¬ (s.size : Int) = 0 := by omega
  have i1b : ¬ s = ByteArray.empty := fun e => by rw [e] at h0; exact absurd h0 (by decide)
  have i2 : (60 : Int) < (s.size : Int) := by omega
  clear h h0
  clear hk hm
  have hM0 : Below N w w := Below.refl _ _
  have hs0 : N ≤ w.heap.size := by omega
  go_enter Tryz.func33, Tryz.ntmps33
  go_wp2_with (first | ((with_reducible show wpList _ _ _ _ _ w); refine box_ch (w := w) rfl 55 _ rfl z m (by rfl) ?_; intro u1 hA0 hG0 hz0; have hL : Below w.heap.size w u1 := below_none (Below.refl _ _) (Nat.le_refl _) hG0; rw [hN] at hA0 ⊢; clear hG0 hz0; have hM1 : Below N w u1 := below_more hM0 hL hs0; have hs1 : N ≤ u1.heap.size := Nat.le_trans hs0 (hL).size; clear hM0 hs0; have C_1 := Lib.hid (hA0); clear hL hA0) | ((with_reducible show wpList _ _ _ _ _ u1); refine alloc_row (w := u1) rfl 55 rfl (.agg (ch 0 (List.replicate 16 0))) 17 (fun _ => by kernel_rfl) (by kernel_rfl) ?_; intro u2 _ hR0 hG0 hz0; have hL : Below u1.heap.size u1 u2 := below_none (Below.refl _ _) (Nat.le_refl _) hG0; obtain ⟨GR, eGx⟩ : ∃ g, u1.heap.size = g := ⟨_, rfl⟩; have hR1 : ChB u2 GR 55 0 (List.replicate 16 0) := (by rw [← eGx]; exact hR0); have HLGR := Lib.hid (show N ≤ GR from (by rw [← eGx]; exact hs1)); rw [eGx]; clear hG0 hz0 hR0 eGx; have hM2 : Below N w u2 := below_more hM1 hL hs1; have hs2 : N ≤ u2.heap.size := Nat.le_trans hs1 (hL).size; have C_2 := Lib.hid (C_1.out.under hL); clear C_1; clear hM1 hs1; have R_2 := Lib.hid (hR1); clear hL hR1) | ((with_reducible show wpList _ _ _ _ _ u2); refine load_ch (w := u2) (by rfl) _ rfl N 55 z m (by rfl) C_2.out HM.out ?_) | ((with_reducible show wpList _ _ _ _ _ u2); refine store_ch (w := u2) rfl 55 _ _ rfl GR 55 z m (by rfl) (by rfl) (R_2.out.row (by simp)) HM.out (by kernel_rfl) ?_; intro wz hBz hGz hzz; have hMz : Below N w wz := below_new hM2 hs2 hGz HLGR.out))
  refine bodyPost_ret (results_ch rfl _ _ GR 55 _ m rfl hBz HM.out) rfl ⟨rfl, ?_⟩
  first | exact hMz | (rw [HN.out]; exact hMz)
set_option maxHeartbeats 6400000 in
set_option maxRecDepth 100000 in
theorem rNext_full (vk : Value) (key : List UInt8) (z : Int) (m : List UInt8) (s : ByteArray) (w : World) (hk : SlB w vk key) (hm : m.length = 16) (h : key.length = 16) (h0 : 1 ≤ s.size) (h1 : s.size ≤ 60) : Calls Tryz.prog 33 #[vk, .agg (ch 4294967295 m), .string s] w fun e w' => e = .returned (.tuple #[.agg (ch 4294967295 m), .int .i64 10]) ∧ Below w.heap.size w w' := by
  obtain ⟨N, hN⟩ : ∃ N, w.heap.size = N := ⟨_, rfl⟩
  have HN := Lib.hid hN
  have HM := Lib.hid hm
  obtain ⟨Ak, ck, rfl⟩ := hk.form h
  have i1 : ¬ (s.size : Int) = 0 := by omega
  have i1b : ¬ s = ByteArray.empty := fun e => by rw [e] at h0; exact absurd h0 (by decide)
  have i2 : ¬ (60 : Int) < (s.size : Int) := by omega
  clear h h0 h1
  clear hk hm
  have hM0 : Below N w w := Below.refl _ _
  have hs0 : N ≤ w.heap.size := by omega
  go_enter Tryz.func33, Tryz.ntmps33
  go_wp2_with (first | ((with_reducible show wpList _ _ _ _ _ w); refine box_ch (w := w) rfl 55 _ rfl 4294967295 m (by rfl) ?_; intro u1 hA0 hG0 hz0; have hL : Below w.heap.size w u1 := below_none (Below.refl _ _) (Nat.le_refl _) hG0; rw [hN] at hA0 ⊢; clear hG0 hz0; have hM1 : Below N w u1 := below_more hM0 hL hs0; have hs1 : N ≤ u1.heap.size := Nat.le_trans hs0 (hL).size; clear hM0 hs0; have C_1 := Lib.hid (hA0); clear hL hA0) | ((with_reducible show wpList _ _ _ _ _ u1); refine alloc_row (w := u1) rfl 55 rfl (.agg (ch 0 (List.replicate 16 0))) 17 (fun _ => by kernel_rfl) (by kernel_rfl) ?_; intro u2 _ hR0 hG0 hz0; have hL : Below u1.heap.size u1 u2 := below_none (Below.refl _ _) (Nat.le_refl _) hG0; obtain ⟨GR, eGx⟩ : ∃ g, u1.heap.size = g := ⟨_, rfl⟩; have hR1 : ChB u2 GR 55 0 (List.replicate 16 0) := (by rw [← eGx]; exact hR0); have HLGR := Lib.hid (show N ≤ GR from (by rw [← eGx]; exact hs1)); rw [eGx]; clear hG0 hz0 hR0 eGx; have hM2 : Below N w u2 := below_more hM1 hL hs1; have hs2 : N ≤ u2.heap.size := Nat.le_trans hs1 (hL).size; have C_2 := Lib.hid (C_1.out.under hL); clear C_1; clear hM1 hs1; have R_2 := Lib.hid (hR1); clear hL hR1; have cc := C_2.out.count) | ((with_reducible show wpList _ _ _ _ _ u2); refine load_ch (w := u2) (by rfl) _ rfl N 55 4294967295 m (by rfl) C_2.out HM.out ?_) | ((with_reducible show wpList _ _ _ _ _ u2); refine store_ch (w := u2) rfl 55 _ _ rfl GR 55 4294967295 m (by rfl) (by rfl) (R_2.out.row (by simp)) HM.out (by kernel_rfl) ?_; intro wz hBz hGz hzz; have hMz : Below N w wz := below_new hM2 hs2 hGz HLGR.out))
  refine bodyPost_ret (results_ch rfl _ _ GR 55 _ m rfl hBz HM.out) rfl ⟨rfl, ?_⟩
  first | exact hMz | (rw [HN.out]; exact hMz)
set_option maxHeartbeats 6400000 in
set_option maxRecDepth 100000 in
theorem rNext_yes (vk : Value) (key : List UInt8) (n : Nat) (m : List UInt8) (s : ByteArray) (w : World) (hk : SlB w vk key) (hm : m.length = 16) (h : key.length = 16) (h0 : 1 ≤ s.size) (h1 : s.size ≤ 60) (hz : n < 4294967295) : Calls Tryz.prog 33 #[vk, .agg (ch n m), .string s] w fun e w' => e = .returned (.tuple #[.agg (ch ((n + 1 : Nat) : Int) (pcmac 1 key (m ++ pnum (n + 1) ++ sb s))), .int .i64 0]) ∧ Below w.heap.size w w' := by
  obtain ⟨N, hN⟩ : ∃ N, w.heap.size = N := ⟨_, rfl⟩
  have HN := Lib.hid hN
  have HM := Lib.hid hm
  obtain ⟨Ak, ck, rfl⟩ := hk.form h
  have i1 : ¬ (s.size : Int) = 0 := by omega
  have i1b : ¬ s = ByteArray.empty := fun e => by rw [e] at h0; exact absurd h0 (by decide)
  have i2 : ¬ (60 : Int) < (s.size : Int) := by omega
  have i3 : ¬ (n : Int) = 4294967295 := by omega
  have HKL := Lib.hid h
  have HS2 := Lib.hid (show s.size ≤ 60 from h1)
  have HNN := Lib.hid (show n + 1 ≤ 4294967296 by omega)
  obtain ⟨zn, ezn⟩ : ∃ x : Int, ((n + 1 : Nat) : Int) = x := ⟨_, rfl⟩
  have EZN := Lib.hid ezn
  have E1 := Lib.hid (show wrap64 ((n : Int) + 1) = ((n + 1 : Nat) : Int) from wrap_nat n (by omega))
  have E2 := Lib.hid (show wrap64 ((n : Int) + 1) = zn from by rw [← ezn]; exact wrap_nat n (by omega))
  have E3 := Lib.hid (show (n : Int) + 1 = zn from by rw [← ezn]; omega)
  obtain ⟨mk, emk⟩ : ∃ x, pcmac 1 key (m ++ pnum (n + 1) ++ sb s) = x := ⟨_, rfl⟩
  have EMK := Lib.hid emk
  have HMK := Lib.hid (show mk.length = 16 by rw [← emk]; exact pcmac_len 1 key _ (.inl rfl))
  clear h h0 h1 hz hm ezn emk
  have hM0 : Below N w w := Below.refl _ _
  have hs0 : N ≤ w.heap.size := by omega
  have K_0 := Lib.hid (hk)
  clear hk
  go_enter Tryz.func33, Tryz.ntmps33
  go_wp2_with (first | ((with_reducible show wpList _ _ _ _ _ w); refine box_ch (w := w) rfl 55 _ rfl (n : Int) m (by rfl) ?_; intro u1 hA0 hG0 hz0; have hL : Below w.heap.size w u1 := below_none (Below.refl _ _) (Nat.le_refl _) hG0; rw [hN] at hA0 ⊢; clear hG0 hz0; have hM1 : Below N w u1 := below_more hM0 hL hs0; have hs1 : N ≤ u1.heap.size := Nat.le_trans hs0 (hL).size; have K_1 := Lib.hid (K_0.out.below hL); clear K_0; clear hM0 hs0; have C_1 := Lib.hid (hA0); clear hL hA0) | ((with_reducible show wpList _ _ _ _ _ u1); refine alloc_row (w := u1) rfl 55 rfl (.agg (ch 0 (List.replicate 16 0))) 17 (fun _ => by kernel_rfl) (by kernel_rfl) ?_; intro u2 _ hR0 hG0 hz0; have hL : Below u1.heap.size u1 u2 := below_none (Below.refl _ _) (Nat.le_refl _) hG0; obtain ⟨GR, eGx⟩ : ∃ g, u1.heap.size = g := ⟨_, rfl⟩; have hR1 : ChB u2 GR 55 0 (List.replicate 16 0) := (by rw [← eGx]; exact hR0); have HLGR := Lib.hid (show N ≤ GR from (by rw [← eGx]; exact hs1)); rw [eGx]; clear hG0 hz0 hR0 eGx; have hM2 : Below N w u2 := below_more hM1 hL hs1; have hs2 : N ≤ u2.heap.size := Nat.le_trans hs1 (hL).size; have K_2 := Lib.hid (K_1.out.below hL); clear K_1; have C_2 := Lib.hid (C_1.out.under hL); clear C_1; clear hM1 hs1; have R_2 := Lib.hid (hR1); clear hL hR1; have cc := C_2.out.count) | (at_builtin; (with_reducible show wpList _ _ _ _ _ (World.alloc u2 _)); clear cc; have SMa := Lib.hid hM2; have SSa := Lib.hid hs2; have SaK := Lib.hid K_2.out; have SaC := Lib.hid C_2.out; have SaR := Lib.hid R_2.out; have Ma_2 := Lib.hid (Below.refl u2.heap.size u2); have hT := C_2.out.markS (n := 16) HM.out (by decide); have T_2 := Lib.hid (hT); clear hT; (refine append_b hu_sl hu_u8 rfl _ _ rfl u2.heap.size _ [] (by rfl) (own_lit0 u2 _ (Nat.le_refl _)) _ m (by rfl) (T_2.out.alloc _) (by rw [HM.out]; decide) (by simp) ?_); intro vX w3 hO hG; have hL : Below u2.heap.size u2 w3 := below_new ((Below.refl _ _).alloc (Nat.le_refl _) _) (by simp) hG (Nat.le_refl _); have hO2 : Own w3 u2.heap.size vX m := (hO); clear hG hO; have hM3 : Below N w w3 := below_more hM2 hL hs2; have hs3 : N ≤ w3.heap.size := Nat.le_trans hs2 (hL).size; have K_3 := Lib.hid (K_2.out.below hL); clear K_2; have C_3 := Lib.hid (C_2.out.under hL); clear C_2; have R_3 := Lib.hid (R_2.out.under hL); clear R_2; have Ma_3 := Lib.hid (below_more Ma_2.out hL Ma_2.out.size); clear Ma_2; have T_3 := Lib.hid (T_2.out.below hL); clear T_2; clear hM2 hs2; have X_3 := Lib.hid (hO2); clear hL hO2; have cc := C_3.out.count; clear T_3) | (go_at_call 76; (with_reducible show Calls _ _ _ w3 _); rw [E1.out]; refine (rnum_any (n + 1) w3 HNN.out).mono ?_; rintro e w4 ⟨rfl, hBn, hGn, hzn⟩; have hL : Below w3.heap.size w3 w4 := below_none (Below.refl _ _) (Nat.le_refl _) hGn; have hSn := hBn.slB (n := 4) (pnum_len _) (by decide); clear hBn hGn hzn cc; have hM4 : Below N w w4 := below_more hM3 hL hs3; have hs4 : N ≤ w4.heap.size := Nat.le_trans hs3 (hL).size; have K_4 := Lib.hid (K_3.out.below hL); clear K_3; have C_4 := Lib.hid (C_3.out.under hL); clear C_3; have R_4 := Lib.hid (R_3.out.under hL); clear R_3; have Ma_4 := Lib.hid (below_more Ma_3.out hL Ma_3.out.size); clear Ma_3; have X_4 := Lib.hid (X_3.out.under hL); clear X_3; clear hM3 hs3; have T_4 := Lib.hid (hSn); clear hL hSn) | (at_builtin; (with_reducible show wpList _ _ _ _ _ w4); (refine append_b (w := w4) hu_sl hu_u8 rfl _ _ rfl u2.heap.size vX (m) (by rfl) X_4.out _ (pnum (n + 1)) (by rfl) T_4.out (by rw [HM.out, pnum_len]; decide) Ma_4.out.size ?_); intro vY w5 hO hG; have hL : Below u2.heap.size u2 w5 := below_own Ma_4.out Ma_4.out.size hG (fun k hk => (X_4.out.lt k hk).1); have hX := hO; clear hG hO; clear K_4 C_4 R_4 Ma_4 X_4 T_4; clear hM4 hs4; have hM5 : Below N w w5 := below_more SMa.out hL SSa.out; have hs5 : N ≤ w5.heap.size := Nat.le_trans SSa.out (hL).size; have K_5 := Lib.hid (SaK.out.below hL); have C_5 := Lib.hid (SaC.out.under hL); have R_5 := Lib.hid (SaR.out.under hL); have X_5 := Lib.hid (hX); have Ma_5 := Lib.hid (hL); clear hL hX) | ((with_reducible show wpList _ _ _ _ _ w5); refine op_bytes (w := w5) (by rfl) _ rfl s rfl (by have := HS2.out; omega) ?_; intro vT w6 hT hL hTb; clear hTb; have hM6 : Below N w w6 := below_more hM5 hL hs5; have hs6 : N ≤ w6.heap.size := Nat.le_trans hs5 (hL).size; have K_6 := Lib.hid (K_5.out.below hL); clear K_5; have C_6 := Lib.hid (C_5.out.under hL); clear C_5; have R_6 := Lib.hid (R_5.out.under hL); clear R_5; have X_6 := Lib.hid (X_5.out.under hL); clear X_5; have Ma_6 := Lib.hid (below_more Ma_5.out hL Ma_5.out.size); clear Ma_5; clear hM5 hs5; have T_6 := Lib.hid (hT); clear hL hT) | (at_builtin; (with_reducible show wpList _ _ _ _ _ w6); (refine append_b (w := w6) hu_sl hu_u8 rfl _ _ rfl u2.heap.size vY (m ++ pnum (n + 1)) (by rfl) X_6.out _ (sb s) (by rfl) T_6.out (by rw [List.length_append, HM.out, pnum_len, sb_len]; have := HS2.out; omega) Ma_6.out.size ?_); intro vZ w7 hO hG; have hL : Below u2.heap.size u2 w7 := below_own Ma_6.out Ma_6.out.size hG (fun k hk => (X_6.out.lt k hk).1); have hX := hO; clear hG hO; clear K_6 C_6 R_6 X_6 Ma_6 T_6; clear hM6 hs6; have hM7 : Below N w w7 := below_more SMa.out hL SSa.out; have hs7 : N ≤ w7.heap.size := Nat.le_trans SSa.out (hL).size; have K_7 := Lib.hid (SaK.out.below hL); have C_7 := Lib.hid (SaC.out.under hL); have R_7 := Lib.hid (SaR.out.under hL); have X_7 := Lib.hid (hX); have Ma_7 := Lib.hid (hL); clear hL hX; have cc := C_7.out.count) | (go_at_call 29; (with_reducible show Calls _ _ _ w7 _); refine (rCmac1_any _ _ key (m ++ pnum (n + 1) ++ sb s) _ _ w7 ⟨_, _, _, rfl⟩ ⟨_, _, _, rfl⟩ K_7.out (.inl HKL.out) X_7.out.slB (by rw [List.length_append, List.length_append, HM.out, pnum_len, sb_len]; have := HS2.out; omega)).mono ?_; rintro e wc ⟨vm, rfl, hD, hDb, hLc⟩; rw [EMK.out] at hD; obtain ⟨gm, om, cm, rfl, hcm, hRm, hgm⟩ := hD.sure HMK.out (by decide)) | ((with_reducible show wpList _ _ _ _ _ wc); refine alloc_row (w := wc) rfl bkt rfl (.agg #[.slice none 0 0, .slice none 0 0]) 2 (fun _ => by kernel_rfl) (by kernel_rfl) ?_; intro wa hRa _ hGa hza) | ((with_reducible show wpList _ _ _ _ _ wa); refine store_vr (w := wa) rfl bkt _ _ rfl wc.heap.size bkt 2 [.slice none 0 0, .slice none 0 0] (by rfl) (by rfl) hRa (by intro u hu; simp only [List.mem_cons, List.not_mem_nil, or_false] at hu; rcases hu with rfl | rfl <;> rfl) rfl bkt_i ?_; intro w8 hBb hGb hzb; have hL9 : Below wc.heap.size wc w8 := below_new (below_none (Below.refl _ _) (Nat.le_refl _) hGa) hGa.size hGb (Nat.le_refl _); have hL : Below w7.heap.size w7 w8 := below_more hLc hL9 hLc.size; have hR2 := hRm.under3 hL9; clear hRa hGa hza hBb hGb hzb hLc hL9 hRm hgm hD hDb cc; have hM8 : Below N w w8 := below_more hM7 hL hs7; have hs8 : N ≤ w8.heap.size := Nat.le_trans hs7 (hL).size; have K_8 := Lib.hid (K_7.out.below hL); clear K_7; have C_8 := Lib.hid (C_7.out.under hL); clear C_7; have R_8 := Lib.hid (R_7.out.under hL); clear R_7; have X_8 := Lib.hid (X_7.out.under hL); clear X_7; have Ma_8 := Lib.hid (below_more Ma_7.out hL Ma_7.out.size); clear Ma_7; clear hM7 hs7; have RM_8 := Lib.hid (hR2); clear hL hR2; have cc := C_8.out.count) | ((with_reducible show wpList _ _ _ _ _ w8); refine op_bld1 (w := w8) rfl cht _ rfl (.agg (ch zn (List.replicate 16 0))) (.int .i64 zn) (by first | exact congrArg (Value.int .i64) E2.out | exact congrArg (Value.int .i64) E3.out) (fun w => by kernel_rfl) ?_) | ((with_reducible show wpList _ _ _ _ _ w8); refine alloc_row (w := w8) rfl 55 rfl (.agg (ch 0 (List.replicate 16 0))) 17 (fun _ => by kernel_rfl) (by kernel_rfl) ?_; intro wa hRa _ hGa hza) | ((with_reducible show wpList _ _ _ _ _ wa); refine store_ch (w := wa) rfl 55 _ _ rfl w8.heap.size 55 zn (List.replicate 16 0) (by rfl) (by rfl) hRa (by decide) (by kernel_rfl) ?_; intro w9 hBb hGb hzb; have hL : Below w8.heap.size w8 w9 := below_new (below_none (Below.refl _ _) (Nat.le_refl _) hGa) hGa.size hGb (Nat.le_refl _); obtain ⟨GO, eGx⟩ : ∃ g, w8.heap.size = g := ⟨_, rfl⟩; have hgB : ChB w9 GO 55 zn (List.replicate 16 0) := (by rw [← eGx]; exact hBb); have HLGO := Lib.hid (show N ≤ GO from (by rw [← eGx]; exact hs8)); have HRO := Lib.hid (show GR < GO from (by rw [← eGx]; exact R_8.out.lt)); have HGO := Lib.hid (show gm < GO from (by rw [← eGx]; exact block_of_cell (RM_8.out.cell 0 (by rw [HMK.out]; decide)))); rw [eGx]; clear hRa hGa hza hBb hGb hzb eGx; have hM9 : Below N w w9 := below_more hM8 hL hs8; have hs9 : N ≤ w9.heap.size := Nat.le_trans hs8 (hL).size; have K_9 := Lib.hid (K_8.out.below hL); clear K_8; have C_9 := Lib.hid (C_8.out.under hL); clear C_8; have R_9 := Lib.hid (R_8.out.under hL); clear R_8; have X_9 := Lib.hid (X_8.out.under hL); clear X_8; have Ma_9 := Lib.hid (below_more Ma_8.out hL Ma_8.out.size); clear Ma_8; have RM_9 := Lib.hid (RM_8.out.under3 hL); clear RM_8; clear hM8 hs8; have O_9 := Lib.hid (hgB); clear hL hgB))
  clear cc
  have hO0 : ChB w9 GO 55 zn (mto mk 0) := by rw [mto_zero, HMK.out]; exact O_9.out
  have hR0 := R_9.out
  have hD0 := RM_9.out
  have hW0 : Below N w w9 := hM9
  have hZ0 : N ≤ w9.heap.size := hs9
  clear K_9 C_9 R_9 X_9 Ma_9 RM_9 O_9
  clear hM9 hs9
  go_loopw [13] (fun i wr => ∃ k : Nat, k ≤ 16 ∧ i = .int .i64 k ∧ ChB wr GO 55 zn (mto mk k) ∧ ChB wr GR 55 0 (List.replicate 16 0) ∧ Rd wr gm om mk ∧ Below N w wr ∧ N ≤ wr.heap.size) (fun i _ => 16 - (intOf i).toNat)
  case atStart => exact ⟨0, by omega, rfl, hO0, hR0, hD0, hW0, hZ0⟩
  case round =>
    clear hO0 hR0 hD0 hW0 hZ0
    obtain ⟨k, hk, rfl, hO, hR, hD, hW, hZ⟩ := hrel
    by_cases hlt : k < 16
    · have HLT := Lib.hid hlt
      have c1 := hD.cell k (by rw [HMK.out]; exact hlt)
      have HO := Lib.hid hO
      have HR := Lib.hid hR
      have HD := Lib.hid hD
      have HW := Lib.hid hW
      have HZ := Lib.hid hZ
      clear hO hR hD hW hZ
      go_wp2_with ((with_reducible show wpList _ _ _ _ _ wr); refine store_chm (w := wr) rfl 5 _ _ rfl GO k 55 zn (mto mk k) (g8 mk k) (by rfl) (by rfl) HO.out (by rw [mto_len _ _ (by rw [HMK.out]; exact Nat.le_of_lt HLT.out), HMK.out]; exact HLT.out) (by kernel_rfl) ?_; intro wq hB hG hz)
      refine ⟨⟨k + 1, HLT.out, by go_num, by rw [mto_set _ _ (by rw [HMK.out]; exact HLT.out)] at hB; exact hB, HR.out.old hG (by have := HRO.out; simp; omega), HD.out.old hG (by have := HGO.out; simp; omega), below_new HW.out HZ.out hG HLGO.out, by rw [hz]; exact HZ.out⟩, by have : k < 16 := HLT.out; simp [intOf]; omega⟩
    · obtain rfl : k = 16 := by omega
      have e16 : mto mk 16 = mk := by rw [show 16 = mk.length from HMK.out.symm]; exact mto_all mk
      rw [e16] at hO
      have HO := Lib.hid hO
      have HR := Lib.hid hR
      have HW := Lib.hid hW
      have HZ := Lib.hid hZ
      clear hO hR hD hW hZ e16
      go_wp2_with (first | ((with_reducible show wpList _ _ _ _ _ wr); refine load_ch (w := wr) (by rfl) _ rfl GO 55 zn mk (by rfl) HO.out HMK.out ?_) | ((with_reducible show wpList _ _ _ _ _ wr); refine store_ch (w := wr) rfl 55 _ _ rfl GR 55 zn mk (by rfl) (by rfl) (HR.out.row (by simp)) HMK.out (by kernel_rfl) ?_; intro wz hBz hGz hzz))
      refine bodyPost_ret (results_ch rfl _ _ GR 55 _ mk rfl hBz HMK.out) rfl ⟨?_, ?_⟩
      · rw [EZN.out, EMK.out]; rfl
      · first | exact below_new HW.out HZ.out hGz HLGR.out | (rw [HN.out]; exact below_new HW.out HZ.out hGz HLGR.out)
end Go.Proofs.YtpfmhohldfnhmaaGreatDoor
set_option linter.unusedVariables false
set_option linter.unusedSimpArgs false
namespace Go.Proofs.YtpfmhohldfnhmaaGreatDoor
open Go Go.RowKit Lk
set_option maxHeartbeats 1600000 in
set_option maxRecDepth 100000 in
theorem rApply_note (vk ve q : Value) (z z2 : Int) (m m2 t : List UInt8) (w : World) (he : SlB w ve (6 :: t)) (hm : m.length = 16) (hm2 : m2.length = 16) (h1 : 1 ≤ t.length) (h2 : t.length ≤ 60)
    (hx : ∀ w', Below w.heap.size w w' → Calls Tryz.prog 33 #[vk, .agg (ch z m), .string (bs t)] w' fun e w'' => e = .returned (.tuple #[.agg (ch z2 m2), q]) ∧ Below w'.heap.size w' w'') :
    Calls Tryz.prog 39 #[vk, .agg (ch z m), ve] w fun e w' => e = .returned (.tuple #[.agg (ch z2 m2), q]) ∧ Below w.heap.size w w' := by
  obtain ⟨N, hN⟩ : ∃ N, w.heap.size = N := ⟨_, rfl⟩
  rw [hN] at hx
  have HX := Lib.hid hx
  have HN := Lib.hid hN
  have HM := Lib.hid hm
  have HM2 := Lib.hid hm2
  obtain ⟨T, hT⟩ : ∃ T, t.length = T := ⟨_, rfl⟩
  have hL : (6 :: t).length = T + 1 := by rw [List.length_cons, hT]
  obtain ⟨L, eL⟩ : ∃ L, T + 1 = L := ⟨_, rfl⟩
  rw [eL] at hL
  obtain ⟨A, c, rfl, hcL⟩ := he.formc hL
  obtain ⟨g, o, rfl, hrd⟩ : ∃ g o, A = some ⟨g, o, none⟩ ∧ Rd w g o (6 :: t) := by
    obtain ⟨A', c', e1, h1, h2, h3, h4⟩ := he
    injection e1 with e1 e2 e3
    subst e1 e3
    exact h4 (by omega)
  have hgN : g < N := by rw [← hN]; exact block_of_cell (hrd 0 (by omega))
  have HRD := Lib.hid (fun (w' : World) (hw' : Below N w w') => (show w'.cell? ⟨g, o, none⟩ = some (.int .u8 6) from (hrd.below hw' hgN).cell 0 (by omega)))
  have HT := Lib.hid (show t.length = L - 1 by omega)
  have HRR := Lib.hid (fun (w' : World) (hw' : Below N w w') => hrd.below hw' hgN)
  have eLx : 1 ≤ L := by omega
  have j0 : ¬ (L : Int) < 2 := by omega
  have j1 : ¬ (61 : Int) < (L : Int) := by omega
  have hL0 : 0 < (L : Int) := by omega
  have hL1 : (1 : Int) ≤ (L : Int) := by omega
  have hLc : (L : Int) ≤ (c : Int) := by omega
  have hc1 : ¬ c = 1 := by omega
  have h5 : L = 21 → ¬ (6 : Int) = 5 := fun _ => by decide
  clear he hm hL hrd hx hm2
  have run : ∀ b : Bool, decide ((L : Int) = 21) = b → Calls Tryz.prog 39 #[vk, .agg (ch z m), .slice (some ⟨g, o, none⟩) L c] w fun e w' => e = .returned (.tuple #[.agg (ch z2 m2), q]) ∧ Below w.heap.size w w' := by
    intro b hb
    have hb' : ((L : Int) == 21) = b := by rw [← hb]; rfl
    cases b
    all_goals
      go_enter Tryz.func39, Tryz.ntmps39
      go_wp2_with (first
        | ((with_reducible show wpList _ _ _ _ _ w); refine box_ch (w := w) rfl 55 _ rfl z m (by rfl) ?_; intro w1 hC1 hG1 hz1; have hM1 : Below N w w1 := (below_none (Below.refl _ _) (by omega) hG1); rw [hN] at hC1 hz1)
        | ((with_reducible show wpList _ _ _ _ _ w1); refine alloc_row (w := w1) rfl 55 rfl (.agg (ch 0 (List.replicate 16 0))) 17 (fun _ => by kernel_rfl) (by kernel_rfl) ?_; intro w2 hR2 _ hG2 hz2; have hC2 := hC1.old hG2 (by simp); have hM2 : Below N w w2 := (below_none hM1 (by omega) hG2); have hb2 := (HRD.out w2 hM2); rw [hz1] at hR2 ⊢))
      have hrdq : Rd w2 g o (6 :: t) := HRR.out w2 hM2
      refine wp_region_held (S := fun w' => ChB w' N 55 z m ∧ Rd w' g o (6 :: t) ∧ Row w' (N + 1) 55 17 ∧ Below N w w') (by kernel_rfl) ?_
      show wpAnyH _ _ _ _ _ 10 _ _ w2.drew
      have hC6 : ChB w2.drew N 55 z m := hC2
      have hR6 : Row w2.drew (N + 1) 55 17 := hR2
      have hr6 : Rd w2.drew g o (6 :: t) := hrdq
      have hM6 : Below N w w2.drew := hM2.drew
      have hz6 : N + 2 ≤ w2.drew.heap.size := by show N + 2 ≤ w2.heap.size; omega
      obtain ⟨w6, ew6⟩ : ∃ x, w2.drew = x := ⟨_, rfl⟩
      rw [ew6] at hC6 hR6 hr6 hM6 hz6 ⊢
      have hS6 : (fun w' => ChB w' N 55 z m ∧ Rd w' g o (6 :: t) ∧ Row w' (N + 1) 55 17 ∧ Below N w w') w6 := ⟨hC6, hr6, hR6, hM6⟩
      refine wpAnyH_take (i := 0) rfl (by kernel_rfl) (by kernel_rfl) (by kernel_rfl) (fun _ _ _ h => h) (yields_val (by kernel_rfl) (vk) (fun w => by kernel_rfl)) hS6 ?_
      refine wpAnyH_take (i := 1) rfl (by kernel_rfl) (by kernel_rfl) (by kernel_rfl) (fun _ _ _ h => h) (yields_chain (by kernel_rfl) _ rfl N 55 z m (by kernel_rfl) (fun w' hw' => hw'.1) HM.out) hS6 ?_
      refine wpAnyH_take (i := 2) rfl (by kernel_rfl) (by kernel_rfl) (by kernel_rfl) (fun _ _ _ h => h) (yields_val (by kernel_rfl) (.slice (some ⟨g, o, none⟩) L c) (fun w => by kernel_rfl)) hS6 ?_
      refine wpAnyH_take (i := 3) rfl (by kernel_rfl) (by kernel_rfl) (by kernel_rfl) (fun _ _ _ h => h) (yields_tail (by kernel_rfl) _ _ rfl rfl g o L c (by kernel_rfl) eLx hcL hc1) hS6 ?_
      refine wpAnyH_take (i := 4) rfl (by kernel_rfl) (by kernel_rfl) (by kernel_rfl) (fun _ _ _ h => h) (yields_conv (by kernel_rfl) hu_sl hu_b hu_str _ rfl g (o + 1) (c - 1) (L - 1) t (by kernel_rfl) HT.out (fun w' hw' _ => hw'.2.1.tail)) hS6 ?_
      refine wpAnyH_all (rs := [5]) (by kernel_rfl) (by decide) ?_
      intro i5 hi5
      obtain rfl : i5 = 5 := by simpa using hi5
      refine wpOp_enter rfl (by kernel_rfl) _ #[vk, .agg (ch z m), .string (bs t)] (.tuple #[.agg (ch z2 m2), q]) (fun w' => Below w6.heap.size w6 w') (by kernel_rfl) (HX.out w6 hM6) ?_
      intro w7 hL7
      have hS7 : (fun w' => ChB w' N 55 z m ∧ Rd w' g o (6 :: t) ∧ Row w' (N + 1) 55 17 ∧ Below N w w') w7 := ⟨hC6.below hL7 (by omega), hr6.below hL7 (by omega), hR6.below hL7 (by omega), below_more hM6 hL7 (by omega)⟩
      refine ⟨hS7, ?_⟩
      refine wpAnyH_take (i := 6) rfl (by kernel_rfl) (by kernel_rfl) (by kernel_rfl) (fun _ _ _ h => h) (yields_val (by kernel_rfl) (.agg (ch z2 m2)) (fun w => by kernel_rfl)) hS7 ?_
      refine wpAnyH_take (i := 7) rfl (by kernel_rfl) (by kernel_rfl) (by kernel_rfl) (fun _ _ _ h => h) (yields_val (by kernel_rfl) (q) (fun w => by kernel_rfl)) hS7 ?_
      refine wpAnyH_all (rs := [8]) (by kernel_rfl) (by decide) ?_
      intro i8 hi8
      obtain rfl : i8 = 8 := by simpa using hi8
      refine wpOp_store_ch rfl (by kernel_rfl) 55 _ _ rfl (N + 1) 55 z2 m2 (by kernel_rfl) (by kernel_rfl) hS7.2.2.1 HM2.out (by kernel_rfl) ?_
      intro w8 hC8 hG8 hz8
      have h7s := hL7.size
      have hM8 : Below N w w8 := below_new hS7.2.2.2 (by omega) hG8 (by omega)
      have hS8 : (fun w' => ChB w' N 55 z m ∧ Rd w' g o (6 :: t) ∧ Row w' (N + 1) 55 17 ∧ Below N w w') w8 := ⟨hS7.1.old hG8 (by simp), hS7.2.1.old hG8 (by simp; omega), hC8.row HM2.out, hM8⟩
      refine ⟨hS8, ?_⟩
      refine wpAnyH_take (i := 9) rfl (by kernel_rfl) (by kernel_rfl) (by kernel_rfl) (fun _ _ _ h => h) (yields_val (by kernel_rfl) (q) (fun w => by kernel_rfl)) hS8 ?_
      refine wpAnyH_done (by kernel_rfl) ?_ _
      simp only [Act.put, List.getElem_toArray, List.getElem_cons_succ, List.getElem_cons_zero, List.setIfInBounds_toArray, List.set_cons_succ, List.set_cons_zero]
      go_wp2
      refine bodyPost_ret (results_ch rfl _ _ (N + 1) 55 _ m2 rfl hC8 HM2.out) rfl ?_
      exact ⟨rfl, hM8⟩
  exact run _ rfl
set_option maxHeartbeats 6400000 in
set_option maxRecDepth 100000 in
theorem rApply_short (vk ve : Value) (z : Int) (m l : List UInt8) (w : World) (he : SlB w ve l) (hm : m.length = 16) (h : l.length < 2) : Calls Tryz.prog 39 #[vk, .agg (ch z m), ve] w fun e w' => e = .returned (.tuple #[.agg (ch z m), .int .i64 6]) ∧ Below w.heap.size w w' := by
  obtain ⟨N, hN⟩ : ∃ N, w.heap.size = N := ⟨_, rfl⟩
  have HN := Lib.hid hN
  have HM := Lib.hid hm
  obtain ⟨L, hL⟩ : ∃ L, l.length = L := ⟨_, rfl⟩
  obtain ⟨A, c, rfl, hcL⟩ := he.formc hL
  have i0 : ¬ (L : Int) = 21 := by omega
  have i1 : (L : Int) < 2 := by omega
  clear h hm
  have hM0 : Below N w w := Below.refl _ _
  have hs0 : N ≤ w.heap.size := by omega
  have S_0 := Lib.hid (he)
  go_enter Tryz.func39, Tryz.ntmps39
  go_wp2_with (first | ((with_reducible show wpList _ _ _ _ _ w); refine box_ch (w := w) rfl 55 _ rfl z m (by rfl) ?_; intro u1 hA0 hG0 hz0; have hL : Below w.heap.size w u1 := below_none (Below.refl _ _) (Nat.le_refl _) hG0; rw [hN] at hA0 ⊢; clear hG0 hz0; have hM1 : Below N w u1 := below_more hM0 hL hs0; have hs1 : N ≤ u1.heap.size := Nat.le_trans hs0 (hL).size; have S_1 := Lib.hid (S_0.out.below hL); clear S_0; clear hM0 hs0; have C_1 := Lib.hid (hA0); clear hL hA0) | ((with_reducible show wpList _ _ _ _ _ u1); refine alloc_row (w := u1) rfl 55 rfl (.agg (ch 0 (List.replicate 16 0))) 17 (fun _ => by kernel_rfl) (by kernel_rfl) ?_; intro u2 _ hR0 hG0 hz0; have hL : Below u1.heap.size u1 u2 := below_none (Below.refl _ _) (Nat.le_refl _) hG0; obtain ⟨GR, eGx⟩ : ∃ g, u1.heap.size = g := ⟨_, rfl⟩; have hR1 : ChB u2 GR 55 0 (List.replicate 16 0) := (by rw [← eGx]; exact hR0); have HLGR := Lib.hid (show N ≤ GR from (by rw [← eGx]; exact hs1)); rw [eGx]; clear hG0 hz0 hR0 eGx; have hM2 : Below N w u2 := below_more hM1 hL hs1; have hs2 : N ≤ u2.heap.size := Nat.le_trans hs1 (hL).size; have S_2 := Lib.hid (S_1.out.below hL); clear S_1; have C_2 := Lib.hid (C_1.out.under hL); clear C_1; clear hM1 hs1; have R_2 := Lib.hid (hR1); clear hL hR1) | ((with_reducible show wpList _ _ _ _ _ u2); refine load_ch (w := u2) (by rfl) _ rfl N 55 z m (by rfl) C_2.out HM.out ?_) | ((with_reducible show wpList _ _ _ _ _ u2); refine store_ch (w := u2) rfl 55 _ _ rfl GR 55 z m (by rfl) (by rfl) (R_2.out.row (by simp)) HM.out (by kernel_rfl) ?_; intro wz hBz hGz hzz; have hMz : Below N w wz := below_new hM2 hs2 hGz HLGR.out))
  refine bodyPost_ret (results_ch rfl _ _ GR 55 _ m rfl hBz HM.out) rfl ⟨rfl, ?_⟩
  first | exact hMz | (rw [HN.out]; exact hMz)
set_option maxHeartbeats 6400000 in
set_option maxRecDepth 100000 in
theorem rApply_long (vk ve : Value) (z : Int) (m l : List UInt8) (w : World) (he : SlB w ve l) (hm : m.length = 16) (h : 61 < l.length) : Calls Tryz.prog 39 #[vk, .agg (ch z m), ve] w fun e w' => e = .returned (.tuple #[.agg (ch z m), .int .i64 6]) ∧ Below w.heap.size w w' := by
  obtain ⟨N, hN⟩ : ∃ N, w.heap.size = N := ⟨_, rfl⟩
  have HN := Lib.hid hN
  have HM := Lib.hid hm
  obtain ⟨L, hL⟩ : ∃ L, l.length = L := ⟨_, rfl⟩
  obtain ⟨A, c, rfl, hcL⟩ := he.formc hL
  have i0 : ¬ (L : Int) = 21 := by omega
  have i1 : ¬ (L : Int) < 2 := by omega
  have i2 : (61 : Int) < (L : Int) := by omega
  clear h hm
  have hM0 : Below N w w := Below.refl _ _
  have hs0 : N ≤ w.heap.size := by omega
  have S_0 := Lib.hid (he)
  go_enter Tryz.func39, Tryz.ntmps39
  go_wp2_with (first | ((with_reducible show wpList _ _ _ _ _ w); refine box_ch (w := w) rfl 55 _ rfl z m (by rfl) ?_; intro u1 hA0 hG0 hz0; have hL : Below w.heap.size w u1 := below_none (Below.refl _ _) (Nat.le_refl _) hG0; rw [hN] at hA0 ⊢; clear hG0 hz0; have hM1 : Below N w u1 := below_more hM0 hL hs0; have hs1 : N ≤ u1.heap.size := Nat.le_trans hs0 (hL).size; have S_1 := Lib.hid (S_0.out.below hL); clear S_0; clear hM0 hs0; have C_1 := Lib.hid (hA0); clear hL hA0) | ((with_reducible show wpList _ _ _ _ _ u1); refine alloc_row (w := u1) rfl 55 rfl (.agg (ch 0 (List.replicate 16 0))) 17 (fun _ => by kernel_rfl) (by kernel_rfl) ?_; intro u2 _ hR0 hG0 hz0; have hL : Below u1.heap.size u1 u2 := below_none (Below.refl _ _) (Nat.le_refl _) hG0; obtain ⟨GR, eGx⟩ : ∃ g, u1.heap.size = g := ⟨_, rfl⟩; have hR1 : ChB u2 GR 55 0 (List.replicate 16 0) := (by rw [← eGx]; exact hR0); have HLGR := Lib.hid (show N ≤ GR from (by rw [← eGx]; exact hs1)); rw [eGx]; clear hG0 hz0 hR0 eGx; have hM2 : Below N w u2 := below_more hM1 hL hs1; have hs2 : N ≤ u2.heap.size := Nat.le_trans hs1 (hL).size; have S_2 := Lib.hid (S_1.out.below hL); clear S_1; have C_2 := Lib.hid (C_1.out.under hL); clear C_1; clear hM1 hs1; have R_2 := Lib.hid (hR1); clear hL hR1) | ((with_reducible show wpList _ _ _ _ _ u2); refine load_ch (w := u2) (by rfl) _ rfl N 55 z m (by rfl) C_2.out HM.out ?_) | ((with_reducible show wpList _ _ _ _ _ u2); refine store_ch (w := u2) rfl 55 _ _ rfl GR 55 z m (by rfl) (by rfl) (R_2.out.row (by simp)) HM.out (by kernel_rfl) ?_; intro wz hBz hGz hzz; have hMz : Below N w wz := below_new hM2 hs2 hGz HLGR.out))
  refine bodyPost_ret (results_ch rfl _ _ GR 55 _ m rfl hBz HM.out) rfl ⟨rfl, ?_⟩
  first | exact hMz | (rw [HN.out]; exact hMz)
theorem bvx_inj (a b : UInt8) (h : bv a = bv b) : a = b := by
  unfold bv at h
  exact UInt8.toNat_inj.1 (by omega)
set_option maxHeartbeats 6400000 in
set_option maxRecDepth 100000 in
theorem rApply_other (vk ve : Value) (z : Int) (m l : List UInt8) (w : World) (he : SlB w ve l) (hm : m.length = 16) (h0 : 2 ≤ l.length) (h1 : l.length ≤ 61) (h21 : l.length ≠ 21) (h6 : g8 l 0 ≠ 6) : Calls Tryz.prog 39 #[vk, .agg (ch z m), ve] w fun e w' => e = .returned (.tuple #[.agg (ch z m), .int .i64 6]) ∧ Below w.heap.size w w' := by
  obtain ⟨N, hN⟩ : ∃ N, w.heap.size = N := ⟨_, rfl⟩
  have HN := Lib.hid hN
  have HM := Lib.hid hm
  obtain ⟨L, hL⟩ : ∃ L, l.length = L := ⟨_, rfl⟩
  obtain ⟨g, o, c, rfl, hcL, hrd, hgN⟩ := he.sure hL (by omega)
  rw [hN] at hgN
  obtain ⟨b0, eb0⟩ : ∃ b, g8 l 0 = b := ⟨_, rfl⟩
  have HRD := Lib.hid (fun (w' : World) (hw' : Below N w w') => (show w'.cell? ⟨g, o, none⟩ = some (.int .u8 (bv b0)) by rw [← eb0]; exact (hrd.below hw' hgN).cell 0 (by omega)))
  have q6 : ¬ bv b0 = 6 := fun e => h6 (by rw [eb0]; exact bvx_inj b0 6 e)
  have hl0 : 0 < (L : Int) := by omega
  have i1 : ¬ (L : Int) < 2 := by omega
  have i2 : ¬ (61 : Int) < (L : Int) := by omega
  have i0 : ¬ (L : Int) = 21 := by omega
  clear h0 h1 h21 h6 hm hrd eb0 hL
  have hM0 : Below N w w := Below.refl _ _
  have hs0 : N ≤ w.heap.size := by omega
  have S_0 := Lib.hid (he)
  go_enter Tryz.func39, Tryz.ntmps39
  go_wp2_with (first | ((with_reducible show wpList _ _ _ _ _ w); refine box_ch (w := w) rfl 55 _ rfl z m (by rfl) ?_; intro u1 hA0 hG0 hz0; have hL : Below w.heap.size w u1 := below_none (Below.refl _ _) (Nat.le_refl _) hG0; rw [hN] at hA0 ⊢; clear hG0 hz0; have hM1 : Below N w u1 := below_more hM0 hL hs0; have hs1 : N ≤ u1.heap.size := Nat.le_trans hs0 (hL).size; have S_1 := Lib.hid (S_0.out.below hL); clear S_0; clear hM0 hs0; have C_1 := Lib.hid (hA0); clear hL hA0) | ((with_reducible show wpList _ _ _ _ _ u1); refine alloc_row (w := u1) rfl 55 rfl (.agg (ch 0 (List.replicate 16 0))) 17 (fun _ => by kernel_rfl) (by kernel_rfl) ?_; intro u2 _ hR0 hG0 hz0; have hL : Below u1.heap.size u1 u2 := below_none (Below.refl _ _) (Nat.le_refl _) hG0; obtain ⟨GR, eGx⟩ : ∃ g, u1.heap.size = g := ⟨_, rfl⟩; have hR1 : ChB u2 GR 55 0 (List.replicate 16 0) := (by rw [← eGx]; exact hR0); have HLGR := Lib.hid (show N ≤ GR from (by rw [← eGx]; exact hs1)); rw [eGx]; clear hG0 hz0 hR0 eGx; have hM2 : Below N w u2 := below_more hM1 hL hs1; have hs2 : N ≤ u2.heap.size := Nat.le_trans hs1 (hL).size; have S_2 := Lib.hid (S_1.out.below hL); clear S_1; have C_2 := Lib.hid (C_1.out.under hL); clear C_1; clear hM1 hs1; have R_2 := Lib.hid (hR1); clear hL hR1; have c0 := HRD.out u2 (show Below N w u2 from hM2)) | ((with_reducible show wpList _ _ _ _ _ u2); refine load_ch (w := u2) (by rfl) _ rfl N 55 z m (by rfl) C_2.out HM.out ?_) | ((with_reducible show wpList _ _ _ _ _ u2); refine store_ch (w := u2) rfl 55 _ _ rfl GR 55 z m (by rfl) (by rfl) (R_2.out.row (by simp)) HM.out (by kernel_rfl) ?_; intro wz hBz hGz hzz; have hMz : Below N w wz := below_new hM2 hs2 hGz HLGR.out))
  refine bodyPost_ret (results_ch rfl _ _ GR 55 _ m rfl hBz HM.out) rfl ⟨rfl, ?_⟩
  first | exact hMz | (rw [HN.out]; exact hMz)
set_option maxHeartbeats 6400000 in
set_option maxRecDepth 100000 in
theorem rApply_other21 (vk ve : Value) (z : Int) (m l : List UInt8) (w : World) (he : SlB w ve l) (hm : m.length = 16) (h0 : l.length = 21) (h5 : g8 l 0 ≠ 5) (h6 : g8 l 0 ≠ 6) : Calls Tryz.prog 39 #[vk, .agg (ch z m), ve] w fun e w' => e = .returned (.tuple #[.agg (ch z m), .int .i64 6]) ∧ Below w.heap.size w w' := by
  obtain ⟨N, hN⟩ : ∃ N, w.heap.size = N := ⟨_, rfl⟩
  have HN := Lib.hid hN
  have HM := Lib.hid hm
  obtain ⟨L, hL⟩ : ∃ L, l.length = L := ⟨_, rfl⟩
  obtain rfl : L = 21 := by omega
  obtain ⟨g, o, c, rfl, hcL, hrd, hgN⟩ := he.sure hL (by omega)
  rw [hN] at hgN
  obtain ⟨b0, eb0⟩ : ∃ b, g8 l 0 = b := ⟨_, rfl⟩
  have HRD := Lib.hid (fun (w' : World) (hw' : Below N w w') => (show w'.cell? ⟨g, o, none⟩ = some (.int .u8 (bv b0)) by rw [← eb0]; exact (hrd.below hw' hgN).cell 0 (by omega)))
  have q6 : ¬ bv b0 = 6 := fun e => h6 (by rw [eb0]; exact bvx_inj b0 6 e)
  have hl0 : 0 < ((21 : Nat) : Int) := by omega
  have i1 : ¬ ((21 : Nat) : Int) < 2 := by omega
  have i2 : ¬ (61 : Int) < ((21 : Nat) : Int) := by omega
  have q5 : ¬ bv b0 = 5 := fun e => h5 (by rw [eb0]; exact bvx_inj b0 5 e)
  clear h0 h5 h6 hm hrd eb0 hL
  have hM0 : Below N w w := Below.refl _ _
  have hs0 : N ≤ w.heap.size := by omega
  have S_0 := Lib.hid (he)
  go_enter Tryz.func39, Tryz.ntmps39
  go_wp2_with (first | ((with_reducible show wpList _ _ _ _ _ w); refine box_ch (w := w) rfl 55 _ rfl z m (by rfl) ?_; intro u1 hA0 hG0 hz0; have hL : Below w.heap.size w u1 := below_none (Below.refl _ _) (Nat.le_refl _) hG0; rw [hN] at hA0 ⊢; clear hG0 hz0; have hM1 : Below N w u1 := below_more hM0 hL hs0; have hs1 : N ≤ u1.heap.size := Nat.le_trans hs0 (hL).size; have S_1 := Lib.hid (S_0.out.below hL); clear S_0; clear hM0 hs0; have C_1 := Lib.hid (hA0); clear hL hA0) | ((with_reducible show wpList _ _ _ _ _ u1); refine alloc_row (w := u1) rfl 55 rfl (.agg (ch 0 (List.replicate 16 0))) 17 (fun _ => by kernel_rfl) (by kernel_rfl) ?_; intro u2 _ hR0 hG0 hz0; have hL : Below u1.heap.size u1 u2 := below_none (Below.refl _ _) (Nat.le_refl _) hG0; obtain ⟨GR, eGx⟩ : ∃ g, u1.heap.size = g := ⟨_, rfl⟩; have hR1 : ChB u2 GR 55 0 (List.replicate 16 0) := (by rw [← eGx]; exact hR0); have HLGR := Lib.hid (show N ≤ GR from (by rw [← eGx]; exact hs1)); rw [eGx]; clear hG0 hz0 hR0 eGx; have hM2 : Below N w u2 := below_more hM1 hL hs1; have hs2 : N ≤ u2.heap.size := Nat.le_trans hs1 (hL).size; have S_2 := Lib.hid (S_1.out.below hL); clear S_1; have C_2 := Lib.hid (C_1.out.under hL); clear C_1; clear hM1 hs1; have R_2 := Lib.hid (hR1); clear hL hR1; have c0 := HRD.out u2 (show Below N w u2 from hM2)) | ((with_reducible show wpList _ _ _ _ _ u2); refine load_ch (w := u2) (by rfl) _ rfl N 55 z m (by rfl) C_2.out HM.out ?_) | ((with_reducible show wpList _ _ _ _ _ u2); refine store_ch (w := u2) rfl 55 _ _ rfl GR 55 z m (by rfl) (by rfl) (R_2.out.row (by simp)) HM.out (by kernel_rfl) ?_; intro wz hBz hGz hzz; have hMz : Below N w wz := below_new hM2 hs2 hGz HLGR.out))
  refine bodyPost_ret (results_ch rfl _ _ GR 55 _ m rfl hBz HM.out) rfl ⟨rfl, ?_⟩
  first | exact hMz | (rw [HN.out]; exact hMz)
/-- the number whose first k bytes these are -/
def bcnt (l : List UInt8) : Nat → Int
  | 0 => 0
  | k + 1 => 256 * bcnt l k + bv (g8 l (k + 1))
theorem bcnt_lt (l : List UInt8) (k : Nat) (hk : k ≤ 4) : 0 ≤ bcnt l k ∧ bcnt l k < 4294967296 := by
  have h : ∀ k, 0 ≤ bcnt l k ∧ bcnt l k < 256 ^ k := by
    intro k
    induction k with
    | zero => exact ⟨by simp [bcnt], by simp [bcnt]⟩
    | succ k ih =>
      have hv : 0 ≤ bv (g8 l (k + 1)) ∧ bv (g8 l (k + 1)) < 256 := ⟨bv_ge _, bv_lt _⟩
      simp only [bcnt, Int.pow_succ]
      omega
  refine ⟨(h k).1, Int.lt_of_lt_of_le (h k).2 ?_⟩
  have : k = 0 ∨ k = 1 ∨ k = 2 ∨ k = 3 ∨ k = 4 := by omega
  rcases this with rfl | rfl | rfl | rfl | rfl <;> decide
set_option maxHeartbeats 6400000 in
set_option maxRecDepth 100000 in
theorem rApply_save (vk ve : Value) (z : Int) (m m2 : List UInt8) (b1 b2 b3 b4 : UInt8) (w : World) (he : SlB w ve (5 :: b1 :: b2 :: b3 :: b4 :: m2)) (hm : m.length = 16) (hm2 : m2.length = 16) :
    Calls Tryz.prog 39 #[vk, .agg (ch z m), ve] w fun e w' => e = .returned (.tuple #[.agg (ch (bv b1 * 16777216 + bv b2 * 65536 + bv b3 * 256 + bv b4) m2), .int .i64 0]) ∧ Below w.heap.size w w' := by
  obtain ⟨N, hN⟩ : ∃ N, w.heap.size = N := ⟨_, rfl⟩
  have HN := Lib.hid hN
  have HM := Lib.hid hm
  have HM2 := Lib.hid hm2
  obtain ⟨l, el⟩ : ∃ l, (5 :: b1 :: b2 :: b3 :: b4 :: m2) = l := ⟨_, rfl⟩
  have hl : l.length = 21 := by rw [← el]; simp [hm2]
  rw [el] at he
  obtain ⟨g, o, c, rfl, hcL, hrd, hgN⟩ := he.sure hl (by decide)
  rw [hN] at hgN
  have HRD := Lib.hid (fun (w' : World) (hw' : Below N w w') => hrd.below hw' hgN)
  have HL := Lib.hid hl
  have G0 := Lib.hid (show g8 l 0 = 5 by rw [← el]; rfl)
  have GM := Lib.hid (show ∀ k, g8 l (5 + k) = g8 m2 k from fun k => by rw [← el, Nat.add_comm]; rfl)
  obtain ⟨cn, hcn⟩ : ∃ f : Nat → Int, f = bcnt l := ⟨_, rfl⟩
  have C0 := Lib.hid (show cn 0 = 0 by rw [hcn]; rfl)
  have CS := Lib.hid (show ∀ k, cn (k + 1) = 256 * cn k + bv (g8 l (k + 1)) from fun k => by rw [hcn]; rfl)
  have CB := Lib.hid (show ∀ k, k ≤ 4 → 0 ≤ cn k ∧ cn k < 4294967296 from fun k hk => by rw [hcn]; exact bcnt_lt l k hk)
  have C4 := Lib.hid (show cn 4 = bv b1 * 16777216 + bv b2 * 65536 + bv b3 * 256 + bv b4 by
    rw [hcn, ← el]; show 256 * (256 * (256 * (256 * 0 + bv b1) + bv b2) + bv b3) + bv b4 = _; omega)
  obtain ⟨zz, ezz⟩ : ∃ z, bv b1 * 16777216 + bv b2 * 65536 + bv b3 * 256 + bv b4 = z := ⟨_, rfl⟩
  rw [ezz] at C4 ⊢
  clear he hl hm hm2 hrd el hcn ezz
  have hM0 : Below N w w := Below.refl _ _
  have hs0 : N ≤ w.heap.size := by omega
  go_enter Tryz.func39, Tryz.ntmps39
  go_wp2_with (first | ((with_reducible show wpList _ _ _ _ _ w); refine box_ch (w := w) rfl 55 _ rfl z m (by rfl) ?_; intro u1 hA0 hG0 hz0; have hL : Below w.heap.size w u1 := below_none (Below.refl _ _) (Nat.le_refl _) hG0; rw [hN] at hA0 ⊢; clear hG0 hz0; have hM1 : Below N w u1 := below_more hM0 hL hs0; have hs1 : N ≤ u1.heap.size := Nat.le_trans hs0 (hL).size; clear hM0 hs0; have C_1 := Lib.hid (hA0); clear hL hA0) | ((with_reducible show wpList _ _ _ _ _ u1); refine alloc_row (w := u1) rfl 55 rfl (.agg (ch 0 (List.replicate 16 0))) 17 (fun _ => by kernel_rfl) (by kernel_rfl) ?_; intro u2 _ hR0 hG0 hz0; have hL : Below u1.heap.size u1 u2 := below_none (Below.refl _ _) (Nat.le_refl _) hG0; obtain ⟨GR, eGx⟩ : ∃ g, u1.heap.size = g := ⟨_, rfl⟩; have hR1 : ChB u2 GR 55 0 (List.replicate 16 0) := (by rw [← eGx]; exact hR0); have HLGR := Lib.hid (show N ≤ GR from (by rw [← eGx]; exact hs1)); rw [eGx]; clear hG0 hz0 hR0 eGx; have hM2 : Below N w u2 := below_more hM1 hL hs1; have hs2 : N ≤ u2.heap.size := Nat.le_trans hs1 (hL).size; have C_2 := Lib.hid (C_1.out.under hL); clear C_1; clear hM1 hs1; have R_2 := Lib.hid (hR1); clear hL hR1; have c0 : u2.cell? ⟨g, o, none⟩ = some (.int .u8 5) := (by have h := (HRD.out u2 hM2).cell 0 (by rw [HL.out]; decide); rw [G0.out] at h; exact h)) | ((with_reducible show wpList _ _ _ _ _ u2); refine alloc_row (w := u2) rfl 55 rfl (.agg (ch 0 (List.replicate 16 0))) 17 (fun _ => by kernel_rfl) (by kernel_rfl) ?_; intro wa hRa _ hGa hza) | ((with_reducible show wpList _ _ _ _ _ wa); refine store_ch (w := wa) rfl 55 _ _ rfl u2.heap.size 55 0 (List.replicate 16 0) (by rfl) (by rfl) hRa (by decide) (by kernel_rfl) ?_; intro w3 hBb hGb hzb; have hL : Below u2.heap.size u2 w3 := below_new (below_none (Below.refl _ _) (Nat.le_refl _) hGa) hGa.size hGb (Nat.le_refl _); obtain ⟨GO, eGx⟩ : ∃ g, u2.heap.size = g := ⟨_, rfl⟩; have hgB : ChB w3 GO 55 0 (List.replicate 16 0) := (by rw [← eGx]; exact hBb); have HLGO := Lib.hid (show N ≤ GO from (by rw [← eGx]; exact hs2)); have HRO := Lib.hid (show GR < GO from (by rw [← eGx]; exact R_2.out.lt)); rw [eGx]; clear hRa hGa hza hBb hGb hzb eGx; have hM3 : Below N w w3 := below_more hM2 hL hs2; have hs3 : N ≤ w3.heap.size := Nat.le_trans hs2 (hL).size; have C_3 := Lib.hid (C_2.out.under hL); clear C_2; have R_3 := Lib.hid (R_2.out.under hL); clear R_2; clear hM2 hs2; have O_3 := Lib.hid (hgB); clear hL hgB))
  clear c0
  have hO0 : ChB w3 GO 55 (cn 0) (List.replicate 16 0) := by rw [C0.out]; exact O_3.out
  have hR0 := R_3.out
  have hW0 : Below N w w3 := hM3
  have hZ0 : N ≤ w3.heap.size := hs3
  clear C_3 R_3 O_3
  clear hM3 hs3
  go_loopw [9] (fun i wr => ∃ j : Nat, 1 ≤ j ∧ j ≤ 5 ∧ i = .int .i64 (j : Int) ∧ ChB wr GO 55 (cn (j - 1)) (List.replicate 16 0) ∧ ChB wr GR 55 0 (List.replicate 16 0) ∧ Below N w wr ∧ N ≤ wr.heap.size) (fun i _ => 5 - (intOf i).toNat)
  case atStart => exact ⟨1, by omega, by omega, rfl, hO0, hR0, hW0, hZ0⟩
  case round =>
    clear hO0 hR0 hW0 hZ0
    obtain ⟨j, hj, hk, rfl, hO, hR, hW, hZ⟩ := hrel
    by_cases hlt : j < 5
    · have HLT := Lib.hid hlt
      have c1 := (HRD.out wr hW).cell j (by rw [HL.out]; omega)
      have cc := hO.count
      have hb1 := (CB.out (j - 1) (by omega)).1
      have hb2 := (CB.out (j - 1) (by omega)).2
      have e1 := CS.out (j - 1)
      rw [show j - 1 + 1 = j by omega] at e1
      have hv := bv_lt (g8 l j)
      have hv0 := bv_ge (g8 l j)
      obtain ⟨x, ex⟩ : ∃ x, bv (g8 l j) = x := ⟨_, rfl⟩
      obtain ⟨y, ey⟩ : ∃ y, cn (j - 1) = y := ⟨_, rfl⟩
      rw [ex] at c1 e1 hv hv0
      rw [ey] at cc e1 hb1 hb2 hO
      have E1 := Lib.hid e1
      have hlt21 : j < 21 := by omega
      have hj21 : (j : Int) < 21 := by omega
      have hj0 : (0 : Int) ≤ (j : Int) := by omega
      have ew1 : IntKind.i64.wrap (256 * y) = 256 * y := IntWalk.i64_in _ (by omega)
      have ew2 : IntKind.i64.wrap (256 * y + x) = 256 * y + x := IntWalk.i64_in _ (by omega)
      have ew3 : IntKind.i64.wrap x = x := IntWalk.i64_in _ (by omega)
      have HO := Lib.hid hO
      have HR := Lib.hid hR
      have HW := Lib.hid hW
      have HZ := Lib.hid hZ
      clear hO hR hW hZ e1
      go_wp2_with fail
      refine wp_quiet_tail (fun w9 => ∃ n, w9 = wr.drewN n) 10 (by kernel_rfl) (by kernel_rfl) ⟨1, rfl⟩ ?_
      simp only [List.take_succ_cons, List.take_zero, List.drop_succ_cons, List.drop_zero]
      repeat (quiet_step (fail))
      refine wpQuiet_nil ?_
      rintro _ ⟨nq, rfl⟩
      have HO2 : ChB (wr.drewN nq) GO 55 y (List.replicate 16 0) := HO.out
      generalize hwq : wr.drewN nq = wq at HO2 ⊢
      have HR2 := Lib.hid (show ChB wq GR 55 0 (List.replicate 16 0) by rw [← hwq]; exact HR.out)
      have HW2 := Lib.hid (show Below N w wq by rw [← hwq]; exact below_more HW.out (Drawn.below0 ⟨nq, rfl⟩) HZ.out)
      have HZ2 := Lib.hid (show N ≤ wq.heap.size by rw [← hwq]; exact HZ.out)
      have HO3 := Lib.hid HO2
      clear HO2 HO HR HW HZ hwq
      go_wp2_with ((with_reducible show wpList _ _ _ _ _ wq); refine store_ch0 (w := wq) rfl 3 _ _ rfl GO 55 y (256 * y + x) (List.replicate 16 0) (by rfl) (by rfl) HO3.out (by kernel_rfl) ?_; intro wt hB hG hz)
      refine ⟨⟨j + 1, by omega, HLT.out, by go_num, by rw [show j + 1 - 1 = j from rfl, E1.out]; exact hB, HR2.out.old hG (by have := HRO.out; simp; omega), below_new HW2.out HZ2.out hG HLGO.out, by rw [hz]; exact HZ2.out⟩, by have : j < 5 := HLT.out; simp [intOf]; omega⟩
    · have hj5 : j - 1 = 4 := by omega
      rw [hj5, C4.out] at hO
      clear hj5
      have hn5 : ¬ (j : Int) < 5 := by omega
      clear hlt
      have hO0 : ChB wr GO 55 zz (mto m2 0) := by rw [mto_zero, HM2.out]; exact hO
      clear hO
      have HBB := Lib.hid CB.out
      clear CS CB C0 C4 HBB hj hk
      go_wp2_with fail
      go_loopw [10] (fun i wr => ∃ k : Nat, k ≤ 16 ∧ i = .int .i64 k ∧ ChB wr GO 55 zz (mto m2 k) ∧ ChB wr GR 55 0 (List.replicate 16 0) ∧ Below N w wr ∧ N ≤ wr.heap.size) (fun i _ => 16 - (intOf i).toNat)
      case atStart => exact ⟨0, by omega, rfl, hO0, hR, hW, hZ⟩
      case round =>
        clear hO0 hR hW hZ
        obtain ⟨k, hk, rfl, hO, hR, hW, hZ⟩ := hrel
        by_cases hlt : k < 16
        · have HLT := Lib.hid hlt
          have c1 : wr.cell? ⟨g, o + (5 + k), none⟩ = some (.int .u8 (bv (g8 m2 k))) := by rw [← GM.out]; exact (HRD.out wr hW).cell (5 + k) (by rw [HL.out]; omega)
          have hlt21 : 5 + k < 21 := by omega
          have HO := Lib.hid hO
          have HR := Lib.hid hR
          have HW := Lib.hid hW
          have HZ := Lib.hid hZ
          clear hO hR hW hZ
          go_wp2_with ((with_reducible show wpList _ _ _ _ _ wr); refine store_chm (w := wr) rfl 5 _ _ rfl GO k 55 zz (mto m2 k) (g8 m2 k) (by rfl) (by rfl) HO.out (by rw [mto_len _ _ (by rw [HM2.out]; exact Nat.le_of_lt HLT.out), HM2.out]; exact HLT.out) (by kernel_rfl) ?_; intro wq hB hG hz)
          rw [mto_set _ _ (by rw [HM2.out]; exact HLT.out)] at hB
          go_roundw
          case rel => exact ⟨k + 1, HLT.out, by go_num, hB, HR.out.old hG (by have := HRO.out; simp; omega), below_new HW.out HZ.out hG HLGO.out, by rw [hz]; exact HZ.out⟩
          case measure => have : k < 16 := HLT.out; simp [intOf]; omega
        · obtain rfl : k = 16 := by omega
          have e16 : mto m2 16 = m2 := by rw [show 16 = m2.length from HM2.out.symm]; exact mto_all m2
          rw [e16] at hO
          have HO := Lib.hid hO
          have HR := Lib.hid hR
          have HW := Lib.hid hW
          have HZ := Lib.hid hZ
          clear hO hR hW hZ e16
          go_wp2_with (first | ((with_reducible show wpList _ _ _ _ _ wr); refine load_ch (w := wr) (by rfl) _ rfl GO 55 zz m2 (by rfl) HO.out HM2.out ?_) | ((with_reducible show wpList _ _ _ _ _ wr); refine store_ch (w := wr) rfl 55 _ _ rfl GR 55 zz m2 (by rfl) (by rfl) (HR.out.row (by simp)) HM2.out (by kernel_rfl) ?_; intro wz hBz hGz hzz))
          refine bodyPost_ret (results_ch rfl _ _ GR 55 _ m2 rfl hBz HM2.out) rfl ⟨rfl, ?_⟩
          first | exact below_new HW.out HZ.out hGz HLGR.out | (rw [HN.out]; exact below_new HW.out HZ.out hGz HLGR.out)
end Go.Proofs.YtpfmhohldfnhmaaGreatDoor
set_option linter.unusedVariables false
set_option linter.unusedSimpArgs false
namespace Lk
open Go Go.RowKit
section
variable {P : Program} {ops : Array Oper} {Q : Exit → Act → World → Prop} {md : Region.Mode} {S : World → Prop}
structure OpHd (P : Program) (ops : Array Oper) (Q : Exit → Act → World → Prop) (i : Nat) (K : Act → World → Prop) (a : Act) (w : World) : Prop where
  h : wpOp P ops Q i K a w
theorem anyH_one (i : Nat) {fuel : Nat} {listed : Array Bool} {a : Act} {w : World} (hr : Region.ready md ops listed = [i])
    (h : OpHd P ops Q i (fun a' w' => S w' ∧ wpAnyH P md ops Q S fuel (listed.setIfInBounds i true) a' w') a w) : wpAnyH P md ops Q S (fuel + 1) listed a w :=
  wpAnyH_all hr (by simp) (fun j hj => by rw [List.mem_singleton] at hj; rw [hj]; exact h.h)
theorem anyH_tk {i : Nat} (d : Option Nat) {oi : Oper} {v : Value} {fuel : Nat} {listed : Array Bool} {a : Act} {w : World} (hi : ops[i]? = some oi) (hd : oi.dst = d)
    (hs : Region.noSelect ops = true) (hf : Region.free md ops listed i = true) (hr : (Region.ready md ops listed).contains i = true)
    (hQ : ∀ c a w, Q (.panic c) (a.put d v) w → Q (.panic c) a w) (hy : YieldsIf P ops S oi v a) (hS : S w)
    (h : wpAnyH P md ops Q S fuel (listed.setIfInBounds i true) (a.put d v) w) : wpAnyH P md ops Q S (fuel + 1) listed a w := by
  subst hd; exact wpAnyH_take hi hs hf hr hQ hy hS h
theorem opH_enter {K : Act → World → Prop} {i : Nat} {o : Oper} {a : Act} {w : World} (d : Option Nat) (hi : ops[i]? = some o) (hd : o.dst = d) (hw : Region.wanted o (yielded ops a.tmps) = true) (f : FuncId) (args : Array Value) (G : Value → World → Prop) (h : (execOp a.eval o).run P w = .ok (.enter f args) w)
    (hc : Calls P f args w fun e w' => ∃ v, e = .returned v ∧ G v w') (hk : ∀ v w', G v w' → K (a.put d v) w') : OpHd P ops Q i K a w := by
  subst hd
  refine ⟨?_⟩
  unfold Go.wpOp
  simp only [hi, hw, if_true]
  refine .inl ?_
  unfold Oper.wp
  rw [h]
  refine hc.mono ?_
  rintro e w' ⟨v, rfl, hG⟩
  exact hk v w' hG
theorem yields_eqc {o : Oper} {a : Act} (hw : Region.wanted o (yielded ops a.tmps) = true) (t r : TypeId) (x y : Operand) (ho : o.op = .binOp .eql t x y r) (xs ys : Array Value) (hx : a.eval x = .agg xs) (hy : a.eval y = .agg ys) (hm : P.eqGuardType P.depth t = false) (b : Bool)
    (hr : ∀ w : World, (binOp .eql t (.agg xs) (.agg ys)).run P w = .ok (.bool b) w) : YieldsIf P ops S o (.bool b) a := .inl ⟨hw, fun w _ => by
    unfold execOp
    simp only [ho, hx, hy, Sem.run_bind, run_eqGuard_agg w .eql t x y xs ys hm, hr, Result.andThen_ok]
    rfl⟩
end
section
variable {P : Program} {ops : Array Oper} {rest : List Oper} {o : Oper} {a : Act} {w : World} {Q : Exit → Act → World → Prop}
theorem op_eqlc (hw : Region.wanted o (yielded ops a.tmps) = true) (t r : TypeId) (x y : Operand) (ho : o.op = .binOp .eql t x y r) (xs ys : Array Value) (hx : a.eval x = .agg xs) (hy : a.eval y = .agg ys) (hm : P.eqGuardType P.depth t = false) (b : Bool)
    (hr : ∀ w : World, (binOp .eql t (.agg xs) (.agg ys)).run P w = .ok (.bool b) w) (h : wpList P ops Q rest (a.put o.dst (.bool b)) w) : wpList P ops Q (o :: rest) a w :=
  wpList_step fun K hK => by
    simp only [hw, if_true]
    unfold Oper.wp execOp
    simp only [ho, hx, hy, Sem.run_bind, run_eqGuard_agg w .eql t x y xs ys hm, hr, Result.andThen_ok]
    exact hK _ _ h
end
end Lk
set_option linter.unusedVariables false
set_option linter.unusedSimpArgs false
namespace Lk
open Go Go.RowKit
section
variable {P : Program} {ops : Array Oper} {rest : List Oper} {o : Oper} {a : Act} {w : World} {Q : Exit → Act → World → Prop}
theorem op_bld0 (hw : Region.wanted o (yielded ops a.tmps) = true) (ty : TypeId) (ho : o.op = .build ty #[]) (v : Value) (hr : ∀ w, (Instr.build ty #[]).run P w = .ok v w)
    (h : wpList P ops Q rest (a.put o.dst v) w) : wpList P ops Q (o :: rest) a w :=
  wpList_step fun K hK => by
    simp only [hw, if_true]
    unfold Oper.wp execOp
    simp only [ho, Sem.run_bind]
    have e : (#[] : Array (Nat × Operand)).map (fun (i, y) => (i, a.eval y)) = #[] := by simp
    rw [e, hr]
    exact hK _ _ h
end
theorem slS_one {w : World} {g : Nat} {s : ByteArray} (h : w.cell? ⟨g, 0, none⟩ = some (.string s)) : SlS w (.slice (some ⟨g, 0, none⟩) 1 1) [s] :=
  ⟨_, 1, rfl, Nat.le_refl _, fun _ => ⟨g, 0, rfl, fun k hk => by
    have : k = 0 := by simpa using hk
    subst this
    exact h⟩⟩
def k23 : List UInt8 := List.replicate 16 0
def n23 : ByteArray := ⟨#[110, 111, 116, 101]⟩
end Lk
namespace Go.Proofs.YtpfmhohldfnhmaaGreatDoor
open Go Go.RowKit Lk
theorem own_form {w : World} {b : Nat} {v : Value} {l : List UInt8} {n : Nat} (h : Own w b v l) (hl : l.length = n) (h0 : 0 < n) : ∃ g c, v = .slice (some ⟨g, 0, none⟩) n c ∧ n ≤ c := by
  obtain ⟨g, c, e, _, _, _, _, h2⟩ := h.form (by omega)
  exact ⟨g, c, by rw [e, hl], by omega⟩
theorem bld_ch0 (w : World) : (Instr.build cht #[]).run Tryz.prog w = .ok (.agg (ch 0 (List.replicate 16 0))) w := by kernel_rfl
set_option maxHeartbeats 6400000 in
set_option maxRecDepth 100000 in
theorem awake23 (w : World) : Calls Tryz.prog 30 #[] w fun e w' => e = .returned (.bool true) ∧ Below w.heap.size w w' := by
  obtain ⟨N, hN⟩ : ∃ N, w.heap.size = N := ⟨_, rfl⟩
  have HN := Lib.hid hN
  obtain ⟨mk, emk⟩ : ∃ x, pcmac 1 (List.replicate 16 0) (List.replicate 16 0 ++ pnum (0 + 1) ++ sb ⟨#[110, 111, 116, 101]⟩) = x := ⟨_, rfl⟩
  have EMK := Lib.hid emk
  have HMK := Lib.hid (show mk.length = 16 by rw [← emk]; exact pcmac_len 1 _ _ (.inl rfl))
  have HE1 := Lib.hid (show ∀ k, k < [(⟨#[110, 111, 116, 101]⟩ : ByteArray)].length → (List.replicate 16 (0 : UInt8)).length = 16 ∧ okNote (gs [⟨#[110, 111, 116, 101]⟩] k) = true from fun k hk => by
    have : k = 0 := by simpa using hk
    subst this
    exact ⟨rfl, by decide⟩)
  have HE2 := Lib.hid (show (((([(⟨#[110, 111, 116, 101]⟩ : ByteArray)].length : Nat) : Int) == 1 && pmarks (List.replicate 16 0) [⟨#[110, 111, 116, 101]⟩] 0 (List.replicate 16 0) == mk) = true) by
    have : pmarks (List.replicate 16 0) [⟨#[110, 111, 116, 101]⟩] 0 (List.replicate 16 0) = mk := emk
    rw [this]; simp)
  have HE3 := Lib.hid (show ((((([] : List ByteArray).length : Nat) : Int) == 0 && pmarks (List.replicate 16 0) [] 0 (List.replicate 16 0) == List.replicate 16 0) = true) by decide)
  clear emk
  have hM0 : Below N w w := Below.refl _ _
  have hs0 : N ≤ w.heap.size := by omega
  go_enter Tryz.func30, Tryz.ntmps30
  go_wp2_with (first | ((with_reducible show wpList _ _ _ _ _ w); refine make_new (w := w) rfl 22 5 _ _ rfl 16 (by kernel_rfl) (by kernel_rfl) .i64 .i64 rfl rfl (by omega) ?_; intro w1 hB hG hz; have hL : Below w.heap.size w w1 := below_none (Below.refl _ _) (Nat.le_refl _) hG; obtain ⟨gk, eg⟩ : ∃ g, w.heap.size = g := ⟨_, rfl⟩; have hB2 : SlB w1 (.slice (some ⟨gk, 0, none⟩) 16 16) (List.replicate 16 0) := (by rw [← eg]; exact hB.slB (n := 16) (by simp) (by decide)); rw [eg]; clear hB hG hz eg; have hM1 : Below N w w1 := below_more hM0 hL hs0; have hs1 : N ≤ w1.heap.size := Nat.le_trans hs0 (hL).size; clear hM0 hs0; have K_1 := Lib.hid (hB2); clear hL hB2) | ((with_reducible show wpList _ _ _ _ _ w1); refine op_bld0 (w := w1) (by rfl) cht rfl (.agg (ch 0 (List.replicate 16 0))) bld_ch0 ?_) | (go_at_call 32; (with_reducible show Calls _ _ _ w1 _); refine ((Next_yes _ _ 0 (List.replicate 16 0) ⟨#[110, 111, 116, 101]⟩ w1 K_1.out (by simp) (by decide) (by simp) (by decide) (by decide))).mono ?_; rintro e w2c ⟨he9, hLc⟩; rw [EMK.out] at he9; subst he9) | ((with_reducible show wpList _ _ _ _ _ w2c); refine alloc_row (w := w2c) rfl 55 rfl (.agg (ch 0 (List.replicate 16 0))) 17 (fun _ => by kernel_rfl) (by kernel_rfl) ?_; intro w2a hRa _ hGa hza) | ((with_reducible show wpList _ _ _ _ _ w2a); refine store_ch (w := w2a) rfl 55 _ _ rfl w2c.heap.size 55 1 mk (by rfl) (by rfl) hRa HMK.out (by kernel_rfl) ?_; intro w2 hBb hGb hzb; have hL9 : Below w2c.heap.size w2c w2 := below_new (below_none (Below.refl _ _) (Nat.le_refl _) hGa) hGa.size hGb (Nat.le_refl _); have hL : Below w1.heap.size w1 w2 := below_more hLc hL9 hLc.size; obtain ⟨GC, eGx⟩ : ∃ g, w2c.heap.size = g := ⟨_, rfl⟩; have hgB : ChB w2 GC 55 1 mk := (by rw [← eGx]; exact hBb); have HLGC := Lib.hid (show N ≤ GC from (by rw [← eGx]; exact Nat.le_trans hs1 hLc.size)); rw [eGx]; clear hRa hGa hza hBb hGb hzb hLc eGx hL9; have hM2 : Below N w w2 := below_more hM1 hL hs1; have hs2 : N ≤ w2.heap.size := Nat.le_trans hs1 (hL).size; have K_2 := Lib.hid (K_1.out.below hL); clear K_1; clear hM1 hs1; have C_2 := Lib.hid (hgB); clear hL hgB) | (go_at_call 34; (with_reducible show Calls _ _ _ w2 _); refine (Note_yes ⟨#[110, 111, 116, 101]⟩ w2 (by decide) (by decide)).mono ?_; rintro e w3 ⟨vn, rfl, hO, hL⟩; have hM3 : Below N w w3 := below_more hM2 hL hs2; have hs3 : N ≤ w3.heap.size := Nat.le_trans hs2 (hL).size; have K_3 := Lib.hid (K_2.out.below hL); clear K_2; have C_3 := Lib.hid (C_2.out.under hL); clear C_2; clear hM2 hs2; have NN_3 := Lib.hid (hO); clear hO hL; obtain ⟨gn, cn, rfl, hcn⟩ : ∃ gn cn, vn = .slice (some ⟨gn, 0, none⟩) 5 cn ∧ 5 ≤ cn := own_form NN_3.out (by rw [List.length_cons, sb_len]; rfl) (by decide)) | ((with_reducible show wpList _ _ _ _ _ w3); refine load_ch (w := w3) (by rfl) _ rfl GC 55 1 mk (by rfl) C_3.out HMK.out ?_) | (go_at_call 35; (with_reducible show Calls _ _ _ w3 _); refine (Save_any 1 mk w3 (by decide) HMK.out).mono ?_; rintro e w4 ⟨vs, rfl, hO, hL⟩; have hM4 : Below N w w4 := below_more hM3 hL hs3; have hs4 : N ≤ w4.heap.size := Nat.le_trans hs3 (hL).size; have K_4 := Lib.hid (K_3.out.below hL); clear K_3; have C_4 := Lib.hid (C_3.out.under hL); clear C_3; have NN_4 := Lib.hid (NN_3.out.under hL); clear NN_3; clear hM3 hs3; have SS_4 := Lib.hid (hO); clear hO hL; obtain ⟨gq, cq, rfl, hcq⟩ : ∃ gn cn, vs = .slice (some ⟨gn, 0, none⟩) 21 cn ∧ 21 ≤ cn := own_form SS_4.out (by rw [List.length_cons, List.length_append, pnum_len, HMK.out]) (by decide); have cc := C_4.out.count; have cn0 : w4.cell? ⟨gn, 0, none⟩ = some (.int .u8 6) := NN_4.out.cell 0 (by simp); have cs4 : w4.cell? ⟨gq, 4, none⟩ = some (.int .u8 1) := SS_4.out.cell 4 (by simp [HMK.out, pnum_len])) | ((with_reducible show wpList _ _ _ _ _ (World.alloc w4 _)); generalize hwX : World.alloc w4 _ = wx; have hL : Below w4.heap.size w4 wx := (by rw [← hwX]; exact below_alloc (Below.refl _ _) (Nat.le_refl _) _); have hT : wx.cell? ⟨w4.heap.size, 0, none⟩ = some (.string ⟨#[110, 111, 116, 101]⟩) := (by rw [← hwX]; exact cell_alloc_new _ _ 0 _ rfl); clear hwX cc cn0 cs4; have hM5 : Below N w wx := below_more hM4 hL hs4; have hs5 : N ≤ wx.heap.size := Nat.le_trans hs4 (hL).size; have K_5 := Lib.hid (K_4.out.below hL); clear K_4; have C_5 := Lib.hid (C_4.out.under hL); clear C_4; have NN_5 := Lib.hid (NN_4.out.under hL); clear NN_4; have SS_5 := Lib.hid (SS_4.out.under hL); clear SS_4; clear hM4 hs4; have SL_9 := Lib.hid (slS_one hT); clear hT hL; refine load_ch (w := wx) (by rfl) _ rfl GC 55 1 mk (by rfl) C_5.out HMK.out ?_) | (go_at_call 37; (with_reducible show Calls _ _ _ wx _); refine (Check_end _ _ _ [⟨#[110, 111, 116, 101]⟩] 1 mk true wx K_5.out SL_9.out (by decide) HMK.out HE1.out HE2.out).mono ?_; rintro e w6 ⟨rfl, hL⟩; have hM6 : Below N w w6 := below_more hM5 hL hs5; have hs6 : N ≤ w6.heap.size := Nat.le_trans hs5 (hL).size; have K_6 := Lib.hid (K_5.out.below hL); clear K_5; have C_6 := Lib.hid (C_5.out.under hL); clear C_5; have NN_6 := Lib.hid (NN_5.out.under hL); clear NN_5; have SS_6 := Lib.hid (SS_5.out.under hL); clear SS_5; clear hM5 hs5; clear hL) | ((with_reducible show wpList _ _ _ _ _ w6); refine op_bld0 (w := w6) (by rfl) cht rfl (.agg (ch 0 (List.replicate 16 0))) bld_ch0 ?_) | (go_at_call 37; (with_reducible show Calls _ _ _ w6 _); refine (Check_end _ _ _ [] 0 (List.replicate 16 0) true w6 K_6.out (slS_nil _) (by decide) (by simp) (fun k hk => by simp at hk) HE3.out).mono ?_; rintro e w7 ⟨rfl, hL⟩; have hM7 : Below N w w7 := below_more hM6 hL hs6; have hs7 : N ≤ w7.heap.size := Nat.le_trans hs6 (hL).size; have K_7 := Lib.hid (K_6.out.below hL); clear K_6; have C_7 := Lib.hid (C_6.out.under hL); clear C_6; have NN_7 := Lib.hid (NN_6.out.under hL); clear NN_6; have SS_7 := Lib.hid (SS_6.out.under hL); clear SS_6; clear hM6 hs6; clear hL))
  go_ret
  exact ⟨rfl, by first | exact hM7 | (rw [HN.out]; exact hM7)⟩
end Go.Proofs.YtpfmhohldfnhmaaGreatDoor
