/- Notes, chained: numbers, and whether a text is a note. -/
import Derived.Test.YtpfmhohldfnhmaaKB5
import Derived.Test.YtpfmhohldfnhmaaKM0
import Derived.Test.YtpfmhohldfnhmaaKB6
import Derived.Test.YtpfmhohldfnhmaaKG0
set_option linter.unusedVariables false
set_option linter.unusedSimpArgs false
namespace Lk
open Go Go.RowKit
/-- a number's four bytes -/
def pnum (n : Nat) : List UInt8 := [UInt8.ofNat (n / 16777216), UInt8.ofNat (n / 65536), UInt8.ofNat (n / 256), UInt8.ofNat n]
theorem pnum_len (n : Nat) : (pnum n).length = 4 := rfl
theorem u8_nat (n : Nat) : IntKind.u8.wrap (n : Int) = bv (UInt8.ofNat n) := by
  unfold bv
  rw [IntKind.wrap_u8, UInt8.toNat_ofNat']
  omega
theorem nb3 (n : Nat) : IntKind.u8.wrap ((n : Int) / 16777216) = bv (UInt8.ofNat (n / 16777216)) := by
  rw [← u8_nat]; congr 1
theorem nb2 (n : Nat) : IntKind.u8.wrap ((n : Int) / 65536) = bv (UInt8.ofNat (n / 65536)) := by
  rw [← u8_nat]; congr 1
theorem nb1 (n : Nat) : IntKind.u8.wrap ((n : Int) / 256) = bv (UInt8.ofNat (n / 256)) := by
  rw [← u8_nat]; congr 1
/-- a chain as the model holds it -/
def ch (c : Int) (m : List UInt8) : Array Value := #[.int .i64 c] ++ Bs m
theorem ch_size (c : Int) (m : List UInt8) : (ch c m).size = m.length + 1 := by simp [ch, Bs_size]; omega
/-- the block holds a chain -/
def ChB (w : World) (g T : Nat) (c : Int) (m : List UInt8) : Prop := w.heap[g]? = some (.cells (ch c m) T (0, 0))
theorem ChB.lt {w : World} {g T : Nat} {c : Int} {m : List UInt8} (h : ChB w g T c m) : g < w.heap.size := (Array.getElem?_eq_some_iff.1 h).1
theorem ChB.below {w w1 : World} {g T B : Nat} {c : Int} {m : List UInt8} (h : ChB w g T c m) (hG : Below B w w1) (hg : g < B) : ChB w1 g T c m := by
  unfold ChB; rw [hG.block g hg]; exact h
theorem ChB.under {w w1 : World} {g T : Nat} {c : Int} {m : List UInt8} (h : ChB w g T c m) (hG : Below w.heap.size w w1) : ChB w1 g T c m := h.below hG h.lt
theorem ChB.old {w w1 : World} {g T : Nat} {c : Int} {m : List UInt8} (h : ChB w g T c m) {row : Option Nat} (hG : w.grownBy w1 row) (hne : row ≠ some g) : ChB w1 g T c m := by
  unfold ChB
  rw [hG.block g h.lt (fun e => hne e.symm)]; exact h
theorem ChB.count {w : World} {g T : Nat} {c : Int} {m : List UInt8} (h : ChB w g T c m) : w.cell? ⟨g, 0, none⟩ = some (.int .i64 c) := by
  rw [cell_of_row w g 0 _ T _ h]; unfold ch; rw [Array.getElem?_append_left (by simp)]; rfl
theorem ChB.mark {w : World} {g T : Nat} {c : Int} {m : List UInt8} (h : ChB w g T c m) : Rd w g 1 m := fun k hk => by
  rw [cell_of_row w g (1 + k) _ T _ h]
  unfold ch
  rw [Array.getElem?_append_right (by simp)]
  have : 1 + k - (#[Value.int .i64 c]).size = k := by simp
  rw [this]
  exact Bs_get m k hk
theorem ChB.markS {w : World} {g T n : Nat} {c : Int} {m : List UInt8} (h : ChB w g T c m) (hm : m.length = n) (hn : n ≤ 1000000) : SlB w (.slice (some ⟨g, 1, none⟩) n n) m :=
  ⟨_, n, by rw [hm], fun h => (by cases h), by rw [hm]; exact Nat.le_refl _, by unfold maxLen; omega, fun _ => ⟨g, 1, rfl, h.mark⟩⟩
section
variable {P : Program} {ops : Array Oper} {rest : List Oper} {o : Oper} {a : Act} {w : World} {Q : Exit → Act → World → Prop} {K : Act → World → Prop} {i : Nat}
/-- a chain boxed -/
theorem box_ch (hgd : o.guard = none) (ty : TypeId) (x : Operand) (ho : o.op = .box ty x) (c : Int) (m : List UInt8) (hx : a.eval x = .agg (ch c m))
    (h : ∀ w1, ChB w1 w.heap.size ty c m → w.grownBy w1 none → w1.heap.size = w.heap.size + 1 → wpList P ops Q rest (a.put o.dst (.pointer (some ⟨w.heap.size, 0, none⟩))) w1) : wpList P ops Q (o :: rest) a w :=
  wpList_plain hgd fun _ hK => by
    unfold Oper.wp execOp
    simp only [ho, Sem.run_bind, hx, run_box ty _ w, Result.andThen_ok]
    exact hK _ _ (h _ (heap_alloc_new w _) (grown_alloc (grown_refl w none) _) (by show (w.heap.push _).size = _; simp))
end
end Lk
namespace Go.Proofs.Ytpfmhohldfnhmaa
open Go.RowKit Lk
set_option maxHeartbeats 800000 in
set_option maxRecDepth 100000 in
theorem anum_any (n : Nat) (w : World) (hn : n ≤ 4294967296) :
    Calls Try.prog 20 #[.int .i64 n] w fun e w' => e = .returned (.slice (some ⟨w.heap.size, 0, none⟩) 4 4) ∧ Blk w' w.heap.size 5 (pnum n) ∧ w.grownBy w' none ∧ w'.heap.size = w.heap.size + 1 := by
  have e3 := nb3 n
  have e2 := nb2 n
  have e1 := nb1 n
  have e0 := u8_nat n
  go_enter Try.func20, Try.ntmps20
  go_wp2
  go_ret
  exact ⟨rfl, heap_alloc_new w _, grown_alloc (grown_refl _ _) _, by simp⟩
set_option maxHeartbeats 800000 in
theorem noted_yes (s : ByteArray) (w : World) (h1 : 1 ≤ s.size) (h2 : s.size ≤ 60) :
    Calls Try.prog 19 #[.string s] w fun e w' => e = .returned (.bool true) ∧ w' = w := by
  have h3 : (1 : Int) ≤ (s.size : Int) := by omega
  have h4 : (s.size : Int) ≤ 60 := by omega
  have h5 : decide ((s.size : Int) ≤ 60) = true := decide_eq_true h4
  go_enter Try.func19, Try.ntmps19
  go_wp2
  go_ret
  exact ⟨rfl, rfl⟩
set_option maxHeartbeats 800000 in
theorem noted_no (s : ByteArray) (w : World) (hs : s.size ≤ 140737488351232) (h : s.size = 0 ∨ 60 < s.size) :
    Calls Try.prog 19 #[.string s] w fun e w' => e = .returned (.bool false) ∧ w' = w := by
  rcases h with h | h
  · have h1 : ¬ (1 : Int) ≤ (s.size : Int) := by omega
    go_enter Try.func19, Try.ntmps19
    go_wp2
    go_ret
    exact ⟨rfl, rfl⟩
  · have h1 : (1 : Int) ≤ (s.size : Int) := by omega
    have h2 : ¬ (s.size : Int) ≤ 60 := by omega
    go_enter Try.func19, Try.ntmps19
    go_wp2
    go_ret
    exact ⟨rfl, rfl⟩
end Go.Proofs.Ytpfmhohldfnhmaa
set_option linter.unusedVariables false
set_option linter.unusedSimpArgs false
namespace Lk
open Go Go.RowKit
section
variable {P : Program} {ops : Array Oper} {rest : List Oper} {o : Oper} {a : Act} {w : World} {Q : Exit → Act → World → Prop} {K : Act → World → Prop} {i : Nat}
end
end Lk
namespace Go.Proofs.Ytpfmhohldfnhmaa
open Go.RowKit Lk
set_option maxHeartbeats 800000 in
theorem Note_no (s : ByteArray) (w : World) (hs : s.size ≤ 140737488351232) (h : s.size = 0 ∨ 60 < s.size) :
    Calls Try.prog 9 #[.string s] w fun e w' => ∃ q, q ≠ Value.nilIface ∧ e = .returned (.tuple #[.slice none 0 0, q]) ∧ w' = w := by
  go_enter Try.func9, Try.ntmps9
  go_wp2_with (go_at_call 19; refine (noted_no s _ hs h).mono ?_; rintro e w0 ⟨rfl, rfl⟩)
  go_ret2
  exact ⟨_, by simp, rfl, rfl⟩
set_option maxHeartbeats 800000 in
theorem Note_yes (s : ByteArray) (w : World) (h1 : 1 ≤ s.size) (h2 : s.size ≤ 60) :
    Calls Try.prog 9 #[.string s] w fun e w' => ∃ v, e = .returned (.tuple #[v, .nilIface]) ∧ Own w' w.heap.size v (6 :: sb s) ∧ Below w.heap.size w w' := by
  go_enter Try.func9, Try.ntmps9
  go_wp2_with (first | (go_at_call 19; refine (noted_yes s _ h1 h2).mono ?_; rintro e w0 ⟨rfl, rfl⟩) | (at_builtin; refine append_s hu_sl hu_str hu_u8 rfl _ _ rfl w0.heap.size _ [6] (by rfl) (own_lit w0 w0.heap.size [6] (Nat.le_refl _) (by decide)) s (by rfl) (by show 1 + s.size ≤ _; omega) (by simp) ?_; intro v w2 hO hG))
  go_ret2
  refine ⟨v, rfl, hO, ?_⟩
  refine below_new ((Below.refl _ _).alloc (Nat.le_refl _) _) (by simp) hG (Nat.le_refl _)

theorem load_int (w : World) (ad : Addr) (u : Value) (h : w.cell? ad = some u) : (loadVar 3 ad : Sem Value).run Try.prog w = .ok u w := by
  simp [loadVar, go_sem, h]
set_option maxHeartbeats 800000 in
set_option maxRecDepth 100000 in
theorem rnum_any (n : Nat) (w : World) (hn : n ≤ 4294967296) :
    Calls Try.prog 23 #[.int .i64 n] w fun e w' => e = .returned (.slice (some ⟨w.heap.size, 0, none⟩) 4 4) ∧ Blk w' w.heap.size 5 (pnum n) ∧ w.grownBy w' none ∧ w'.heap.size = w.heap.size + 1 := by
  have e3 := nb3 n
  have e2 := nb2 n
  have e1 := nb1 n
  have e0 := u8_nat n
  go_enter Try.func23, Try.ntmps23
  go_wp2
  go_ret
  exact ⟨rfl, heap_alloc_new w _, grown_alloc (grown_refl _ _) _, by simp⟩
set_option maxHeartbeats 1600000 in
set_option maxRecDepth 100000 in
theorem rSave_any (n : Nat) (m : List UInt8) (w : World) (hn : n ≤ 4294967296) (hm : m.length = 16) :
    Calls Try.prog 14 #[.agg (ch n m)] w fun e w' => ∃ v, e = .returned v ∧ Own w' w.heap.size v (5 :: (pnum n ++ m)) ∧ Below w.heap.size w w' := by
  obtain ⟨N, hN⟩ : ∃ N, w.heap.size = N := ⟨_, rfl⟩
  have Hn := Lib.hid hN
  have HM := Lib.hid hm
  have HA := Lib.hid (fun w' => rnum_any n w' hn)
  clear hm hn
  go_enter Try.func14, Try.ntmps14
  go_wp2_with (refine box_ch rfl 27 _ rfl n m (by rfl) ?_; intro w0 hC hG0 hs0)
  have hL0 : Below N w w0 := by rw [← hN]; exact below_none (Below.refl _ _) (Nat.le_refl _) hG0
  have hC' : ChB w0.drew N 27 n m := by rw [← hN]; exact hC
  rw [hN] at hs0
  obtain ⟨w1, ew1⟩ : ∃ w1, w0.drew = w1 := ⟨_, rfl⟩
  have hL1 : Below N w w1 := by rw [← ew1]; exact hL0.drew
  have hs1 : w1.heap.size = N + 1 := by rw [← ew1]; exact hs0
  refine wp_region_held (S := fun w' => Below (N + 1) w1 w') (by kernel_rfl) ?_
  show wpAnyH _ _ _ _ _ 9 _ _ w0.drew
  rw [ew1] at hC' ⊢
  have hdr : Below (N + 1) w1 w1 := Below.refl _ _
  refine wpAnyH_take (i := 1) rfl (by kernel_rfl) (by kernel_rfl) (by kernel_rfl) (fun _ _ _ h => h) (yields_val (by kernel_rfl) (.pointer (some ⟨N, 0, none⟩)) (fun w => by kernel_rfl)) hdr ?_
  refine wpAnyH_take (i := 2) rfl (by kernel_rfl) (by kernel_rfl) (by kernel_rfl) (fun _ _ _ h => h) (yields_cell (by kernel_rfl) (.int .i64 n) 3 _ rfl ⟨N, 0, none⟩ (by kernel_rfl) (fun w h => load_int w _ _ h) (fun w' hw' => (hC'.below hw' (Nat.lt_succ_self _)).count)) hdr ?_
  refine wpAnyH_take (i := 5) rfl (by kernel_rfl) (by kernel_rfl) (by kernel_rfl) (fun _ _ _ h => h) (yields_val (by kernel_rfl) (.pointer (some ⟨N, 1, none⟩)) (fun w => by kernel_rfl)) hdr ?_
  refine wpAnyH_take (i := 6) rfl (by kernel_rfl) (by kernel_rfl) (by kernel_rfl) (fun _ _ _ h => h) (yields_val (by kernel_rfl) (.slice (some ⟨N, 1, none⟩) 16 16) (fun w => by kernel_rfl)) hdr ?_
  refine wpAnyH_all (rs := [0, 3]) (by kernel_rfl) (by decide) ?_
  intro i hi
  simp only [List.mem_cons, List.not_mem_nil, or_false] at hi
  rcases hi with rfl | rfl
  · refine wpOp_run rfl (by kernel_rfl) (.slice (some ⟨w1.heap.size, 0, none⟩) 1 1) (w1.alloc (.cells (Bs [5]) u8t)) (by kernel_rfl) ?_
    have hO2 : Own (w1.alloc (.cells (Bs [5]) u8t)) (N + 1) (.slice (some ⟨w1.heap.size, 0, none⟩) 1 1) [5] := own_lit w1 (N + 1) [5] (by omega) (by decide)
    have hS2 : Below (N + 1) w1 (w1.alloc (.cells (Bs [5]) u8t)) := hdr.alloc (by omega) _
    have hs2 : (w1.alloc (.cells (Bs [5]) u8t)).heap.size = N + 2 := by simp; omega
    rw [hs1] at hO2 ⊢
    obtain ⟨w2, ew2⟩ : ∃ w2, w1.alloc (.cells (Bs [5]) u8t) = w2 := ⟨_, rfl⟩
    rw [ew2] at hO2 hS2 hs2 ⊢
    refine ⟨hS2, ?_⟩
    refine wpAnyH_all (rs := [3]) (by kernel_rfl) (by decide) ?_
    intro i3 hi3
    obtain rfl : i3 = 3 := by simpa using hi3
    refine wpOp_enter rfl (by kernel_rfl) _ #[.int .i64 n] (.slice (some ⟨N + 2, 0, none⟩) 4 4) (fun w' => Blk w' (N + 2) 5 (pnum n) ∧ w2.grownBy w' none ∧ w'.heap.size = N + 3) (by kernel_rfl) ((HA.out w2).mono (by rw [hs2]; rintro e w' ⟨rfl, h1, h2, h3⟩; exact ⟨rfl, h1, h2, h3⟩)) ?_
    rintro w3 ⟨hB3, hG3, hs3⟩
    have hS3 : Below (N + 1) w1 w3 := below_none hS2 (by omega) hG3
    refine ⟨hS3, ?_⟩
    have hOL : Own w3 (N + 1) (.slice (some ⟨N + 1, 0, none⟩) 1 1) [5] := hO2.kept hG3 (.inr (by simp [Value.ownBlock]))
    have hSN : SlB w3 (.slice (some ⟨N + 2, 0, none⟩) 4 4) (pnum n) := New.slB (base := 0) (l := pnum n) ⟨N + 2, u8t, rfl, Nat.zero_le _, hB3⟩ (by show 4 ≤ maxLen; decide)
    refine wpAnyH_all (rs := [4]) (by kernel_rfl) (by decide) ?_
    intro i4 hi4
    obtain rfl : i4 = 4 := by simpa using hi4
    refine wpOp_append rfl (by kernel_rfl) hu_sl hu_u8 _ _ rfl (N + 1) _ [5] (by kernel_rfl) hOL _ 4 4 (pnum n) (by kernel_rfl) hSN (by show 1 + 4 ≤ _; decide) (by omega) ?_
    intro v4 w4 hO4 hG4
    have hS4 : Below (N + 1) w1 w4 := below_own hS3 (by omega) hG4 (fun k hk => (hOL.lt k hk).1)
    have hs4 := hG4.size
    refine ⟨hS4, ?_⟩
    refine wpAnyH_all (rs := [7]) (by kernel_rfl) (by decide) ?_
    intro i7 hi7
    obtain rfl : i7 = 7 := by simpa using hi7
    refine wpOp_append rfl (by kernel_rfl) hu_sl hu_u8 _ _ rfl (N + 1) v4 ([5] ++ pnum n) (by kernel_rfl) hO4 _ 16 16 m (by kernel_rfl) ((hC'.below hS4 (Nat.lt_succ_self _)).markS HM.out (by decide)) (by rw [HM.out]; show 5 + 16 ≤ _; decide) (by omega) ?_
    intro v5 w5 hO5 hG5
    have hS5 : Below (N + 1) w1 w5 := below_own hS4 (by omega) hG5 (fun k hk => (hO4.lt k hk).1)
    refine ⟨hS5, ?_⟩
    refine wpAnyH_take (i := 8) rfl (by kernel_rfl) (by kernel_rfl) (by kernel_rfl) (fun _ _ _ h => h) (yields_val (by kernel_rfl) (v5) (fun w => by kernel_rfl)) hS5 ?_
    refine wpAnyH_done (by kernel_rfl) ?_ _
    simp only [Act.put, List.getElem_toArray, List.getElem_cons_succ, List.getElem_cons_zero, List.setIfInBounds_toArray, List.set_cons_succ, List.set_cons_zero]
    go_wp2
    go_ret
    refine ⟨v5, rfl, ?_, ?_⟩
    · rw [hN]; exact hO5.lower (by omega)
    · rw [hN]; exact below_more hL1 hS5 (by omega)
  · refine wpOp_enter rfl (by kernel_rfl) _ #[.int .i64 n] (.slice (some ⟨N + 1, 0, none⟩) 4 4) (fun w' => Blk w' (N + 1) 5 (pnum n) ∧ w1.grownBy w' none ∧ w'.heap.size = N + 2) (by kernel_rfl) ((HA.out w1).mono (by rw [hs1]; rintro e w' ⟨rfl, h1, h2, h3⟩; exact ⟨rfl, h1, h2, h3⟩)) ?_
    rintro w2 ⟨hB2, hG2, hs2⟩
    have hS2 : Below (N + 1) w1 w2 := below_none hdr (by omega) hG2
    refine ⟨hS2, ?_⟩
    refine wpAnyH_all (rs := [0]) (by kernel_rfl) (by decide) ?_
    intro i3 hi3
    obtain rfl : i3 = 0 := by simpa using hi3
    refine wpOp_run rfl (by kernel_rfl) (.slice (some ⟨w2.heap.size, 0, none⟩) 1 1) (w2.alloc (.cells (Bs [5]) u8t)) (by kernel_rfl) ?_
    have hOL : Own (w2.alloc (.cells (Bs [5]) u8t)) (N + 1) (.slice (some ⟨w2.heap.size, 0, none⟩) 1 1) [5] := own_lit w2 (N + 1) [5] (by omega) (by decide)
    have hS3 : Below (N + 1) w1 (w2.alloc (.cells (Bs [5]) u8t)) := hS2.alloc (by omega) _
    have hs3 : (w2.alloc (.cells (Bs [5]) u8t)).heap.size = N + 3 := by simp; omega
    have hSN : SlB (w2.alloc (.cells (Bs [5]) u8t)) (.slice (some ⟨N + 1, 0, none⟩) 4 4) (pnum n) := (New.slB (base := 0) (l := pnum n) ⟨N + 1, u8t, rfl, Nat.zero_le _, hB2⟩ (by show 4 ≤ maxLen; decide) : SlB w2 (.slice (some ⟨N + 1, 0, none⟩) 4 4) (pnum n)).alloc _
    rw [hs2] at hOL ⊢
    obtain ⟨w3, ew3⟩ : ∃ w3, w2.alloc (.cells (Bs [5]) u8t) = w3 := ⟨_, rfl⟩
    rw [ew3] at hOL hS3 hs3 hSN ⊢
    refine ⟨hS3, ?_⟩
    refine wpAnyH_all (rs := [4]) (by kernel_rfl) (by decide) ?_
    intro i4 hi4
    obtain rfl : i4 = 4 := by simpa using hi4
    refine wpOp_append rfl (by kernel_rfl) hu_sl hu_u8 _ _ rfl (N + 1) _ [5] (by kernel_rfl) hOL _ 4 4 (pnum n) (by kernel_rfl) hSN (by show 1 + 4 ≤ _; decide) (by omega) ?_
    intro v4 w4 hO4 hG4
    have hS4 : Below (N + 1) w1 w4 := below_own hS3 (by omega) hG4 (fun k hk => (hOL.lt k hk).1)
    have hs4 := hG4.size
    refine ⟨hS4, ?_⟩
    refine wpAnyH_all (rs := [7]) (by kernel_rfl) (by decide) ?_
    intro i7 hi7
    obtain rfl : i7 = 7 := by simpa using hi7
    refine wpOp_append rfl (by kernel_rfl) hu_sl hu_u8 _ _ rfl (N + 1) v4 ([5] ++ pnum n) (by kernel_rfl) hO4 _ 16 16 m (by kernel_rfl) ((hC'.below hS4 (Nat.lt_succ_self _)).markS HM.out (by decide)) (by rw [HM.out]; show 5 + 16 ≤ _; decide) (by omega) ?_
    intro v5 w5 hO5 hG5
    have hS5 : Below (N + 1) w1 w5 := below_own hS4 (by omega) hG5 (fun k hk => (hO4.lt k hk).1)
    refine ⟨hS5, ?_⟩
    refine wpAnyH_take (i := 8) rfl (by kernel_rfl) (by kernel_rfl) (by kernel_rfl) (fun _ _ _ h => h) (yields_val (by kernel_rfl) (v5) (fun w => by kernel_rfl)) hS5 ?_
    refine wpAnyH_done (by kernel_rfl) ?_ _
    simp only [Act.put, List.getElem_toArray, List.getElem_cons_succ, List.getElem_cons_zero, List.setIfInBounds_toArray, List.set_cons_succ, List.set_cons_zero]
    go_wp2
    go_ret
    refine ⟨v5, rfl, ?_, ?_⟩
    · rw [hN]; exact hO5.lower (by omega)
    · rw [hN]; exact below_more hL1 hS5 (by omega)
set_option maxHeartbeats 1600000 in
set_option maxRecDepth 100000 in
theorem Save_any (n : Nat) (m : List UInt8) (w : World) (hn : n ≤ 4294967296) (hm : m.length = 16) :
    Calls Try.prog 8 #[.agg (ch n m)] w fun e w' => ∃ v, e = .returned v ∧ Own w' w.heap.size v (5 :: (pnum n ++ m)) ∧ Below w.heap.size w w' := by
  obtain ⟨N, hN⟩ : ∃ N, w.heap.size = N := ⟨_, rfl⟩
  have Hn := Lib.hid hN
  have HM := Lib.hid hm
  have HA := Lib.hid (fun w' => anum_any n w' hn)
  clear hm hn
  go_enter Try.func8, Try.ntmps8
  go_wp2_with (refine box_ch rfl 27 _ rfl n m (by rfl) ?_; intro w0 hC hG0 hs0)
  have hL0 : Below N w w0 := by rw [← hN]; exact below_none (Below.refl _ _) (Nat.le_refl _) hG0
  have hC' : ChB w0.drew N 27 n m := by rw [← hN]; exact hC
  rw [hN] at hs0
  obtain ⟨w1, ew1⟩ : ∃ w1, w0.drew = w1 := ⟨_, rfl⟩
  have hL1 : Below N w w1 := by rw [← ew1]; exact hL0.drew
  have hs1 : w1.heap.size = N + 1 := by rw [← ew1]; exact hs0
  refine wp_region_held (S := fun w' => Below (N + 1) w1 w') (by kernel_rfl) ?_
  show wpAnyH _ _ _ _ _ 9 _ _ w0.drew
  rw [ew1] at hC' ⊢
  have hdr : Below (N + 1) w1 w1 := Below.refl _ _
  refine wpAnyH_take (i := 1) rfl (by kernel_rfl) (by kernel_rfl) (by kernel_rfl) (fun _ _ _ h => h) (yields_val (by kernel_rfl) (.pointer (some ⟨N, 0, none⟩)) (fun w => by kernel_rfl)) hdr ?_
  refine wpAnyH_take (i := 2) rfl (by kernel_rfl) (by kernel_rfl) (by kernel_rfl) (fun _ _ _ h => h) (yields_cell (by kernel_rfl) (.int .i64 n) 3 _ rfl ⟨N, 0, none⟩ (by kernel_rfl) (fun w h => load_int w _ _ h) (fun w' hw' => (hC'.below hw' (Nat.lt_succ_self _)).count)) hdr ?_
  refine wpAnyH_take (i := 5) rfl (by kernel_rfl) (by kernel_rfl) (by kernel_rfl) (fun _ _ _ h => h) (yields_val (by kernel_rfl) (.pointer (some ⟨N, 1, none⟩)) (fun w => by kernel_rfl)) hdr ?_
  refine wpAnyH_take (i := 6) rfl (by kernel_rfl) (by kernel_rfl) (by kernel_rfl) (fun _ _ _ h => h) (yields_val (by kernel_rfl) (.slice (some ⟨N, 1, none⟩) 16 16) (fun w => by kernel_rfl)) hdr ?_
  refine wpAnyH_all (rs := [0, 3]) (by kernel_rfl) (by decide) ?_
  intro i hi
  simp only [List.mem_cons, List.not_mem_nil, or_false] at hi
  rcases hi with rfl | rfl
  · refine wpOp_run rfl (by kernel_rfl) (.slice (some ⟨w1.heap.size, 0, none⟩) 1 1) (w1.alloc (.cells (Bs [5]) u8t)) (by kernel_rfl) ?_
    have hO2 : Own (w1.alloc (.cells (Bs [5]) u8t)) (N + 1) (.slice (some ⟨w1.heap.size, 0, none⟩) 1 1) [5] := own_lit w1 (N + 1) [5] (by omega) (by decide)
    have hS2 : Below (N + 1) w1 (w1.alloc (.cells (Bs [5]) u8t)) := hdr.alloc (by omega) _
    have hs2 : (w1.alloc (.cells (Bs [5]) u8t)).heap.size = N + 2 := by simp; omega
    rw [hs1] at hO2 ⊢
    obtain ⟨w2, ew2⟩ : ∃ w2, w1.alloc (.cells (Bs [5]) u8t) = w2 := ⟨_, rfl⟩
    rw [ew2] at hO2 hS2 hs2 ⊢
    refine ⟨hS2, ?_⟩
    refine wpAnyH_all (rs := [3]) (by kernel_rfl) (by decide) ?_
    intro i3 hi3
    obtain rfl : i3 = 3 := by simpa using hi3
    refine wpOp_enter rfl (by kernel_rfl) _ #[.int .i64 n] (.slice (some ⟨N + 2, 0, none⟩) 4 4) (fun w' => Blk w' (N + 2) 5 (pnum n) ∧ w2.grownBy w' none ∧ w'.heap.size = N + 3) (by kernel_rfl) ((HA.out w2).mono (by rw [hs2]; rintro e w' ⟨rfl, h1, h2, h3⟩; exact ⟨rfl, h1, h2, h3⟩)) ?_
    rintro w3 ⟨hB3, hG3, hs3⟩
    have hS3 : Below (N + 1) w1 w3 := below_none hS2 (by omega) hG3
    refine ⟨hS3, ?_⟩
    have hOL : Own w3 (N + 1) (.slice (some ⟨N + 1, 0, none⟩) 1 1) [5] := hO2.kept hG3 (.inr (by simp [Value.ownBlock]))
    have hSN : SlB w3 (.slice (some ⟨N + 2, 0, none⟩) 4 4) (pnum n) := New.slB (base := 0) (l := pnum n) ⟨N + 2, u8t, rfl, Nat.zero_le _, hB3⟩ (by show 4 ≤ maxLen; decide)
    refine wpAnyH_all (rs := [4]) (by kernel_rfl) (by decide) ?_
    intro i4 hi4
    obtain rfl : i4 = 4 := by simpa using hi4
    refine wpOp_append rfl (by kernel_rfl) hu_sl hu_u8 _ _ rfl (N + 1) _ [5] (by kernel_rfl) hOL _ 4 4 (pnum n) (by kernel_rfl) hSN (by show 1 + 4 ≤ _; decide) (by omega) ?_
    intro v4 w4 hO4 hG4
    have hS4 : Below (N + 1) w1 w4 := below_own hS3 (by omega) hG4 (fun k hk => (hOL.lt k hk).1)
    have hs4 := hG4.size
    refine ⟨hS4, ?_⟩
    refine wpAnyH_all (rs := [7]) (by kernel_rfl) (by decide) ?_
    intro i7 hi7
    obtain rfl : i7 = 7 := by simpa using hi7
    refine wpOp_append rfl (by kernel_rfl) hu_sl hu_u8 _ _ rfl (N + 1) v4 ([5] ++ pnum n) (by kernel_rfl) hO4 _ 16 16 m (by kernel_rfl) ((hC'.below hS4 (Nat.lt_succ_self _)).markS HM.out (by decide)) (by rw [HM.out]; show 5 + 16 ≤ _; decide) (by omega) ?_
    intro v5 w5 hO5 hG5
    have hS5 : Below (N + 1) w1 w5 := below_own hS4 (by omega) hG5 (fun k hk => (hO4.lt k hk).1)
    refine ⟨hS5, ?_⟩
    refine wpAnyH_take (i := 8) rfl (by kernel_rfl) (by kernel_rfl) (by kernel_rfl) (fun _ _ _ h => h) (yields_val (by kernel_rfl) (v5) (fun w => by kernel_rfl)) hS5 ?_
    refine wpAnyH_done (by kernel_rfl) ?_ _
    simp only [Act.put, List.getElem_toArray, List.getElem_cons_succ, List.getElem_cons_zero, List.setIfInBounds_toArray, List.set_cons_succ, List.set_cons_zero]
    go_wp2
    go_ret
    refine ⟨v5, rfl, ?_, ?_⟩
    · rw [hN]; exact hO5.lower (by omega)
    · rw [hN]; exact below_more hL1 hS5 (by omega)
  · refine wpOp_enter rfl (by kernel_rfl) _ #[.int .i64 n] (.slice (some ⟨N + 1, 0, none⟩) 4 4) (fun w' => Blk w' (N + 1) 5 (pnum n) ∧ w1.grownBy w' none ∧ w'.heap.size = N + 2) (by kernel_rfl) ((HA.out w1).mono (by rw [hs1]; rintro e w' ⟨rfl, h1, h2, h3⟩; exact ⟨rfl, h1, h2, h3⟩)) ?_
    rintro w2 ⟨hB2, hG2, hs2⟩
    have hS2 : Below (N + 1) w1 w2 := below_none hdr (by omega) hG2
    refine ⟨hS2, ?_⟩
    refine wpAnyH_all (rs := [0]) (by kernel_rfl) (by decide) ?_
    intro i3 hi3
    obtain rfl : i3 = 0 := by simpa using hi3
    refine wpOp_run rfl (by kernel_rfl) (.slice (some ⟨w2.heap.size, 0, none⟩) 1 1) (w2.alloc (.cells (Bs [5]) u8t)) (by kernel_rfl) ?_
    have hOL : Own (w2.alloc (.cells (Bs [5]) u8t)) (N + 1) (.slice (some ⟨w2.heap.size, 0, none⟩) 1 1) [5] := own_lit w2 (N + 1) [5] (by omega) (by decide)
    have hS3 : Below (N + 1) w1 (w2.alloc (.cells (Bs [5]) u8t)) := hS2.alloc (by omega) _
    have hs3 : (w2.alloc (.cells (Bs [5]) u8t)).heap.size = N + 3 := by simp; omega
    have hSN : SlB (w2.alloc (.cells (Bs [5]) u8t)) (.slice (some ⟨N + 1, 0, none⟩) 4 4) (pnum n) := (New.slB (base := 0) (l := pnum n) ⟨N + 1, u8t, rfl, Nat.zero_le _, hB2⟩ (by show 4 ≤ maxLen; decide) : SlB w2 (.slice (some ⟨N + 1, 0, none⟩) 4 4) (pnum n)).alloc _
    rw [hs2] at hOL ⊢
    obtain ⟨w3, ew3⟩ : ∃ w3, w2.alloc (.cells (Bs [5]) u8t) = w3 := ⟨_, rfl⟩
    rw [ew3] at hOL hS3 hs3 hSN ⊢
    refine ⟨hS3, ?_⟩
    refine wpAnyH_all (rs := [4]) (by kernel_rfl) (by decide) ?_
    intro i4 hi4
    obtain rfl : i4 = 4 := by simpa using hi4
    refine wpOp_append rfl (by kernel_rfl) hu_sl hu_u8 _ _ rfl (N + 1) _ [5] (by kernel_rfl) hOL _ 4 4 (pnum n) (by kernel_rfl) hSN (by show 1 + 4 ≤ _; decide) (by omega) ?_
    intro v4 w4 hO4 hG4
    have hS4 : Below (N + 1) w1 w4 := below_own hS3 (by omega) hG4 (fun k hk => (hOL.lt k hk).1)
    have hs4 := hG4.size
    refine ⟨hS4, ?_⟩
    refine wpAnyH_all (rs := [7]) (by kernel_rfl) (by decide) ?_
    intro i7 hi7
    obtain rfl : i7 = 7 := by simpa using hi7
    refine wpOp_append rfl (by kernel_rfl) hu_sl hu_u8 _ _ rfl (N + 1) v4 ([5] ++ pnum n) (by kernel_rfl) hO4 _ 16 16 m (by kernel_rfl) ((hC'.below hS4 (Nat.lt_succ_self _)).markS HM.out (by decide)) (by rw [HM.out]; show 5 + 16 ≤ _; decide) (by omega) ?_
    intro v5 w5 hO5 hG5
    have hS5 : Below (N + 1) w1 w5 := below_own hS4 (by omega) hG5 (fun k hk => (hO4.lt k hk).1)
    refine ⟨hS5, ?_⟩
    refine wpAnyH_take (i := 8) rfl (by kernel_rfl) (by kernel_rfl) (by kernel_rfl) (fun _ _ _ h => h) (yields_val (by kernel_rfl) (v5) (fun w => by kernel_rfl)) hS5 ?_
    refine wpAnyH_done (by kernel_rfl) ?_ _
    simp only [Act.put, List.getElem_toArray, List.getElem_cons_succ, List.getElem_cons_zero, List.setIfInBounds_toArray, List.set_cons_succ, List.set_cons_zero]
    go_wp2
    go_ret
    refine ⟨v5, rfl, ?_, ?_⟩
    · rw [hN]; exact hO5.lower (by omega)
    · rw [hN]; exact below_more hL1 hS5 (by omega)
end Go.Proofs.Ytpfmhohldfnhmaa
set_option linter.unusedVariables false
set_option linter.unusedSimpArgs false
namespace Lk
open Go Go.RowKit
theorem ch_one (c : Int) (m : List UInt8) : (ch c m).all (·.oneCell') = true := by
  have := Bs_one m
  unfold ch
  rw [Array.all_append, this, Bool.and_true]
  simp [Value.oneCell']
section
variable {P : Program} {ops : Array Oper} {rest : List Oper} {o : Oper} {a : Act} {w : World} {Q : Exit → Act → World → Prop} {K : Act → World → Prop} {i : Nat}
theorem store_ch (hgd : o.guard = none) (ty : TypeId) (x y : Operand) (ho : o.op = .store ty x y) (g T : Nat) (c : Int) (m : List UInt8) (hx : a.eval x = .pointer (some ⟨g, 0, none⟩)) (hy : a.eval y = .agg (ch c m)) (hR : Row w g T 17) (hl : m.length = 16)
    (hi : (P.info? ty).map (·.size) = some 17)
    (h : ∀ w1, ChB w1 g T c m → w.grownBy w1 (some g) → w1.heap.size = w.heap.size → wpList P ops Q rest (a.put o.dst undef) w1) : wpList P ops Q (o :: rest) a w := by
  obtain ⟨old, hg, hs⟩ := hR
  refine wpList_store_row hgd ty x y ho g (ch c m) hx hy T old hg (by rw [ch_size, hl, hi]) (by rw [hs, ch_size, hl]) (ch_one c m) ?_
  refine h _ ?_ ?_ (size_setRow w g _)
  · exact setRow_heap w g old _ T _ hg
  · exact ⟨rfl, rfl, rfl, Nat.le_of_eq (size_setRow w g _).symm, fun i hi hr => setRow_other w g i _ (by rintro rfl; exact hr rfl)⟩
theorem wpOp_store_ch (hi : ops[i]? = some o) (hw : Region.wanted o (yielded ops a.tmps) = true) (ty : TypeId) (x y : Operand) (ho : o.op = .store ty x y) (g T : Nat) (c : Int) (m : List UInt8) (hx : a.eval x = .pointer (some ⟨g, 0, none⟩)) (hy : a.eval y = .agg (ch c m)) (hR : Row w g T 17) (hl : m.length = 16)
    (hinfo : (P.info? ty).map (·.size) = some 17)
    (hk : ∀ w1, ChB w1 g T c m → w.grownBy w1 (some g) → w1.heap.size = w.heap.size → K (a.put o.dst undef) w1) : wpOp P ops Q i K a w := by
  unfold Go.wpOp
  simp only [hi, hw, if_true]
  refine .inl ?_
  obtain ⟨old, hg, hs⟩ := hR
  refine wp_store_row ty x y ho g (ch c m) hx hy T old hg (by rw [ch_size, hl, hinfo]) (by rw [hs, ch_size, hl]) (ch_one c m) ?_
  refine hk _ ?_ ?_ (size_setRow w g _)
  · exact setRow_heap w g old _ T _ hg
  · exact ⟨rfl, rfl, rfl, Nat.le_of_eq (size_setRow w g _).symm, fun i hi hr => setRow_other w g i _ (by rintro rfl; exact hr rfl)⟩
end
theorem ChB.row {w : World} {g T : Nat} {c : Int} {m : List UInt8} (h : ChB w g T c m) (hl : m.length = 16) : Row w g T 17 := ⟨_, h, by rw [ch_size, hl]⟩
end Lk
namespace Go.Proofs.Ytpfmhohldfnhmaa
open Go.RowKit Lk
def cht : Nat := 27
theorem cht_s : (match Try.prog.underlying cht with | some (.struct _) => true | _ => false) = true := by kernel_rfl
theorem cht_d : ∃ f, Try.prog.underlying cht = some (.struct f) := by
  have h := cht_s
  revert h
  cases Try.prog.underlying cht with
  | none => intro h; cases h
  | some d => cases d <;> intro h <;> first | exact ⟨_, rfl⟩ | cases h
theorem cht_i : (Try.prog.info? cht).map (·.size) = some 17 := by kernel_rfl
theorem load_chain (w : World) (g T : Nat) (c : Int) (m : List UInt8) (h : ChB w g T c m) (hm : m.length = 16) : (loadVar cht ⟨g, 0, none⟩ : Sem Value).run Try.prog w = .ok (.agg (ch c m)) w := by
  obtain ⟨f, hf⟩ := cht_d
  exact run_loadVar_row w g T cht (ch c m) (0, 0) _ h hf rfl (by rw [ch_size, hm]; exact cht_i)
section
variable {ops : Array Oper} {rest : List Oper} {o : Oper} {a : Act} {w : World} {Q : Exit → Act → World → Prop}
theorem load_ch (hw : Region.wanted o (yielded ops a.tmps) = true) (x : Operand) (ho : o.op = .load cht x) (g T : Nat) (c : Int) (m : List UInt8) (hx : a.eval x = .pointer (some ⟨g, 0, none⟩)) (hB : ChB w g T c m) (hm : m.length = 16)
    (h : wpList Try.prog ops Q rest (a.put o.dst (.agg (ch c m))) w) : wpList Try.prog ops Q (o :: rest) a w :=
  wpList_step fun K hK => by
    simp only [hw, if_true]
    unfold Oper.wp execOp
    simp only [ho, hx, Instr.loadAt, Instr.sureAddr, Sem.run_bind, Sem.run_pure, Result.andThen_ok, load_chain w g T c m hB hm]
    exact hK _ _ h
theorem results_ch {fn : Func} {p u : Tmp} (h : fn.results = #[.cell p cht, .tmp u]) (tmps : Array Value) (w : World) (g T : Nat) (c : Int) (m : List UInt8)
    (hp : tmps.getD p undef = .pointer (some ⟨g, 0, none⟩)) (hg : ChB w g T c m) (hl : m.length = 16) :
    (results fn tmps).run Try.prog w = .ok (.tuple #[.agg (ch c m), tmps.getD u undef]) w := by
  rw [results_cell_tmp h, hp]
  simp only [asAddr, Sem.run_pure, Result.andThen, load_chain w g T c m hg hl]
end
end Go.Proofs.Ytpfmhohldfnhmaa
set_option linter.unusedVariables false
set_option linter.unusedSimpArgs false
namespace Go.Proofs.Ytpfmhohldfnhmaa
open Go.RowKit Lk
theorem list16 (l : List UInt8) (h : l.length = 16) : ∃ a0 a1 a2 a3 a4 a5 a6 a7 a8 a9 a10 a11 a12 a13 a14 a15, l = [a0, a1, a2, a3, a4, a5, a6, a7, a8, a9, a10, a11, a12, a13, a14, a15] := by
  match l, h with
  | [a0, a1, a2, a3, a4, a5, a6, a7, a8, a9, a10, a11, a12, a13, a14, a15], _ => exact ⟨a0, a1, a2, a3, a4, a5, a6, a7, a8, a9, a10, a11, a12, a13, a14, a15, rfl⟩
set_option maxHeartbeats 3200000 in
set_option maxRecDepth 100000 in
theorem Next_yes (vk : Value) (key : List UInt8) (n : Nat) (m : List UInt8) (s : ByteArray) (w : World) (hk : SlB w vk key) (hkl : key.length = 16) (hn : n < 4294967295) (hm : m.length = 16) (h1 : 1 ≤ s.size) (h2 : s.size ≤ 60) :
    Calls Try.prog 10 #[vk, .agg (ch n m), .string s] w fun e w' => e = .returned (.tuple #[.agg (ch ((n + 1 : Nat) : Int) (pcmac 1 key (m ++ pnum (n + 1) ++ sb s))), .nilIface]) ∧ Below w.heap.size w w' := by
  obtain ⟨N, hN⟩ : ∃ N, w.heap.size = N := ⟨_, rfl⟩
  have HN := Lib.hid hN
  have HM := Lib.hid hm
  have HSL := Lib.hid h2
  have HSL1 := Lib.hid h1
  have HK := Lib.hid (fun (w' : World) (hw' : Below N w w') => hk.below (by rw [hN]; exact hw'))
  have HKL := Lib.hid hkl
  have HF := Lib.hid (show pfits 1 key.length = true by rw [hkl]; rfl)
  have hA : ∀ w' : World, _ := fun w' => anum_any (n + 1) w' (by omega)
  have HA := Lib.hid hA
  obtain ⟨z, ez⟩ : ∃ z : Int, (n : Int) = z := ⟨_, rfl⟩
  have hn1 : ¬ (4294967295 : Int) ≤ z := by omega
  have HZ := Lib.hid (show z + 1 = ((n + 1 : Nat) : Int) by omega)
  have hn0 : 0 ≤ z := by omega
  rw [ez]
  clear ez
  obtain ⟨Ak, ck, rfl⟩ := hk.form hkl
  have HNN := Lib.hid hn
  clear hk hkl hm hA h1 h2 hn
  go_enter Try.func10, Try.ntmps10
  go_wp2_with (first
    | ((with_reducible show wpList _ _ _ _ _ w); refine box_ch (w := w) rfl 27 _ rfl z m (by rfl) ?_; intro w1 hC1 hG1 hz1; have hM1 : Below N w w1 := (below_none (Below.refl _ _) (by omega) hG1); rw [hN] at hC1 hz1)
    | ((with_reducible show wpList _ _ _ _ _ w1); refine alloc_row (w := w1) rfl 27 rfl (.agg (ch 0 (List.replicate 16 0))) 17 (fun _ => by kernel_rfl) (by kernel_rfl) ?_; intro w2 hR2 _ hG2 hz2; have hC2 := hC1.old hG2 (by simp); have hM2 : Below N w w2 := (below_none hM1 (by omega) hG2); have hc2 := hC2.count; rw [hz1] at hR2 ⊢)
    | (go_at_call 19; refine (noted_yes s _ HSL1.out HSL.out).mono ?_; rintro e w3 ⟨rfl, rfl⟩)
    | (go_at_call 21; refine (New_aes _ key _ HF.out (HK.out _ hM2)).mono ?_; rintro e w5 ⟨q, rfl, hQ5, hL5⟩; have HQ5 := Lib.hid hQ5; have HL5 := Lib.hid hL5; clear hQ5 hL5))
  have hL5 := HL5.out
  have hz2' : w3.heap.size = N + 2 := by omega
  have hN3 : N ≤ w3.heap.size := by omega
  have hL35 : Below N w w5 := below_more hM2 hL5 hN3
  have hz5 : N + 2 ≤ w5.heap.size := by have := hL5.size; omega
  obtain ⟨B, hB⟩ : ∃ B, w5.heap.size = B := ⟨_, rfl⟩
  have hQ6 : Cip w5.drew B q 1 key := by rw [← hB]; exact HQ5.out
  have hC5 : ChB w5 N 27 z m := hC2.below hL5 (by omega)
  have hC6 : ChB w5.drew N 27 z m := hC5
  have hR5 : Row w5 (N + 1) 27 17 := hR2.below hL5 (by omega)
  have hR6 : Row w5.drew (N + 1) 27 17 := hR5
  have hM6 : Below N w w5.drew := hL35.drew
  have hNB : N < B := by omega
  have hNB1 : N + 1 < B := by omega
  have hzw6 : B ≤ w5.drew.heap.size := by show B ≤ w5.heap.size; omega
  have hwr : IntKind.i64.wrap (z + 1) = ((n + 1 : Nat) : Int) := by
    rw [← HZ.out]
    have h1 := HZ.out
    have h2 := HNN.out
    exact IntWalk.i64_in _ (by omega)
  have HW := Lib.hid hwr
  clear hC1 hC2 hG1 hz1 hM1 hR2 hG2 hz2 hM2 hL5 hz2' hN3 hL35 hz5 hC5 hR5
  refine wp_region_held (S := fun w' => Below B w5.drew w') (by kernel_rfl) ?_
  show wpAnyH _ _ _ _ _ 12 _ _ w5.drew
  obtain ⟨w6, ew6⟩ : ∃ w6, w5.drew = w6 := ⟨_, rfl⟩
  rw [ew6] at hQ6 hC6 hR6 hM6 hzw6 ⊢
  have hSw6 : Below B w6 w6 := Below.refl _ _
  refine wpAnyH_take (i := 1) rfl (by kernel_rfl) (by kernel_rfl) (by kernel_rfl) (fun _ _ _ h => h) (yields_val (by kernel_rfl) (.pointer (some ⟨N, 1, none⟩)) (fun w => by kernel_rfl)) hSw6 ?_
  refine wpAnyH_take (i := 2) rfl (by kernel_rfl) (by kernel_rfl) (by kernel_rfl) (fun _ _ _ h => h) (yields_val (by kernel_rfl) (.slice (some ⟨N, 1, none⟩) 16 16) (fun w => by kernel_rfl)) hSw6 ?_
  refine wpAnyH_take (i := 4) rfl (by kernel_rfl) (by kernel_rfl) (by kernel_rfl) (fun _ _ _ h => h) (yields_val (by kernel_rfl) (.pointer (some ⟨N, 0, none⟩)) (fun w => by kernel_rfl)) hSw6 ?_
  refine wpAnyH_take (i := 5) rfl (by kernel_rfl) (by kernel_rfl) (by kernel_rfl) (fun _ _ _ h => h) (yields_cell (by kernel_rfl) (.int .i64 z) 3 _ rfl ⟨N, 0, none⟩ (by kernel_rfl) (fun w h => load_int w _ _ h) (fun w' hw' => (hC6.below hw' hNB).count)) hSw6 ?_
  refine wpAnyH_take (i := 6) rfl (by kernel_rfl) (by kernel_rfl) (by kernel_rfl) (fun _ _ _ h => h) (yields_val (by kernel_rfl) (.int .i64 (IntKind.i64.wrap (z + 1))) (fun w => by kernel_rfl)) hSw6 ?_
  refine wpAnyH_take (i := 9) rfl (by kernel_rfl) (by kernel_rfl) (by kernel_rfl) (fun _ _ _ h => h) (yields_val (by kernel_rfl) (.string s) (fun w => by kernel_rfl)) hSw6 ?_
  refine wpAnyH_all (rs := [0]) (by kernel_rfl) (by decide) ?_
  intro ia hia
  obtain rfl : ia = 0 := by simpa using hia
  refine wpOp_run rfl (by kernel_rfl) (.slice (some ⟨w6.heap.size, 0, none⟩) 0 0) (w6.alloc (.cells #[] u8t)) (by kernel_rfl) ?_
  have hOw7 : Own (w6.alloc (.cells #[] u8t)) B (.slice (some ⟨w6.heap.size, 0, none⟩) 0 0) [] := own_lit0 w6 B hzw6
  have hSw7 : Below B w6 (w6.alloc (.cells #[] u8t)) := hSw6.alloc hzw6 _
  have hzw7 : B ≤ (w6.alloc (.cells #[] u8t)).heap.size := Nat.le_trans hzw6 (by simp)
  obtain ⟨w7, ew7⟩ : ∃ x, (w6.alloc (.cells #[] u8t)) = x := ⟨_, rfl⟩
  rw [ew7] at hOw7 hSw7 hzw7 ⊢
  obtain ⟨v0, ev0⟩ : ∃ v0, Value.slice (some ⟨w6.heap.size, 0, none⟩) 0 0 = v0 := ⟨_, rfl⟩
  rw [ev0] at hOw7 ⊢
  refine ⟨hSw7, ?_⟩
  refine wpAnyH_all (rs := [3]) (by kernel_rfl) (by decide) ?_
  intro ib hib
  obtain rfl : ib = 3 := by simpa using hib
  refine wpOp_append rfl (by kernel_rfl) hu_sl hu_u8 _ _ rfl B v0 [] (by kernel_rfl) hOw7 _ 16 16 m (by kernel_rfl) ((hC6.below hSw7 hNB).markS HM.out (by decide)) (by rw [HM.out]; decide) hzw7 ?_
  intro vm w8 hOw8 hGw8
  have hSw8 : Below B w6 w8 := below_own hSw7 hzw7 hGw8 (fun k hk => (hOw7.lt k hk).1)
  have hzw8 : B ≤ w8.heap.size := Nat.le_trans hzw7 hGw8.size
  rw [List.nil_append] at hOw8
  refine ⟨hSw8, ?_⟩
  refine wpAnyH_all (rs := [7]) (by kernel_rfl) (by decide) ?_
  intro ic hic
  obtain rfl : ic = 7 := by simpa using hic
  refine wpOp_enter rfl (by kernel_rfl) _ #[.int .i64 (IntKind.i64.wrap (z + 1))] (.slice (some ⟨w8.heap.size, 0, none⟩) 4 4) (fun w' => Blk w' w8.heap.size 5 (pnum (n + 1)) ∧ w8.grownBy w' none ∧ w'.heap.size = w8.heap.size + 1) (by kernel_rfl) (by rw [HW.out]; exact (HA.out w8).mono (by rintro e w' ⟨rfl, h1, h2, h3⟩; exact ⟨rfl, h1, h2, h3⟩)) ?_
  rintro w9 ⟨hNw9, hGw9, hzz⟩
  have hSw9 : Below B w6 w9 := below_none hSw8 hzw8 hGw9
  have hzw9 : B ≤ w9.heap.size := by omega
  refine ⟨hSw9, ?_⟩
  have hOw9 := hOw8.kept hGw9 (by cases h : (vm).ownBlock <;> simp)
  have hne : (vm).ownBlock ≠ some w8.heap.size := fun e => absurd (hOw8.lt _ e).2 (Nat.lt_irrefl _)
  obtain ⟨gn, egn⟩ : ∃ g, w8.heap.size = g := ⟨_, rfl⟩
  rw [egn] at hNw9 hne ⊢
  refine wpAnyH_all (rs := [8]) (by kernel_rfl) (by decide) ?_
  intro ix hix
  obtain rfl : ix = 8 := by simpa using hix
  refine wpOp_append rfl (by kernel_rfl) hu_sl hu_u8 _ _ rfl B vm m (by kernel_rfl) hOw9 _ 4 4 (pnum (n + 1)) (by kernel_rfl) (New.slB (base := 0) (l := pnum (n + 1)) ⟨gn, u8t, rfl, Nat.zero_le _, hNw9⟩ (by show 4 ≤ maxLen; decide)) (by rw [HM.out, pnum_len]; decide) hzw9 ?_
  intro vn w10 hOw10 hGw10
  have hSw10 : Below B w6 w10 := below_own hSw9 hzw9 hGw10 (fun k hk => (hOw9.lt k hk).1)
  have hzw10 : B ≤ w10.heap.size := Nat.le_trans hzw9 hGw10.size
  refine ⟨hSw10, ?_⟩
  refine wpAnyH_all (rs := [10]) (by kernel_rfl) (by decide) ?_
  intro iy hiy
  obtain rfl : iy = 10 := by simpa using hiy
  refine wpOp_append_s rfl (by kernel_rfl) hu_sl hu_str hu_u8 _ _ rfl B vn (m ++ pnum (n + 1)) (by kernel_rfl) hOw10 s (by kernel_rfl) (by rw [List.length_append, HM.out, pnum_len]; have := HSL.out; omega) hzw10 ?_
  intro vt w11 hOw11 hGw11
  have hSw11 : Below B w6 w11 := below_own hSw10 hzw10 hGw11 (fun k hk => (hOw10.lt k hk).1)
  have hzw11 : B ≤ w11.heap.size := Nat.le_trans hzw10 hGw11.size
  refine ⟨hSw11, ?_⟩
  refine wpAnyH_take (i := 11) rfl (by kernel_rfl) (by kernel_rfl) (by kernel_rfl) (fun _ _ _ h => h) (yields_val (by kernel_rfl) (vt) (fun w => by kernel_rfl)) hSw11 ?_
  refine wpAnyH_done (by kernel_rfl) ?_ _
  simp only [Act.put, List.getElem_toArray, List.getElem_cons_succ, List.getElem_cons_zero, List.setIfInBounds_toArray, List.set_cons_succ, List.set_cons_zero]
  have HO11 := Lib.hid hOw11
  have HS11 := Lib.hid hSw11
  have HZ11 := Lib.hid hzw11
  have hlen : (m ++ pnum (n + 1) ++ sb s).length ≤ 1000 := by
    have h1 := HM.out
    have h2 := HSL.out
    rw [List.length_append, List.length_append, pnum_len, sb_len]; omega
  have HLEN := Lib.hid hlen
  clear hlen hOw7 hOw8 hOw9 hOw10 hOw11 hSw7 hSw8 hSw9 hSw10 hSw11 hzw7 hzw8 hzw9 hzw10 hzw11 hGw8 hGw9 hGw10 hGw11 hNw9 hne hzz
  go_wp2_with (go_at_call 22; refine (Cmac_any q vt B 1 16 key (m ++ pnum (n + 1) ++ sb s) _ (.inl rfl) (hQ6.below HS11.out (Nat.le_refl _)) HZ11.out HF.out HO11.out.slB HLEN.out (by decide) (by decide)).mono ?_; rintro e w12 ⟨vc, rfl, hO12, hL12⟩)
  have hcl := pcmac_len 1 key (m ++ pnum (n + 1) ++ sb s) (.inl rfl)
  rw [show psize 1 = 16 from rfl] at hcl
  rw [List.take_of_length_le (Nat.le_of_eq hcl)] at hO12
  obtain ⟨mac, emac⟩ : ∃ x, pcmac 1 key (m ++ pnum (n + 1) ++ sb s) = x := ⟨_, rfl⟩
  rw [emac] at hO12 hcl
  have EMAC := Lib.hid emac
  clear emac
  obtain ⟨gm, cm, evc, hgm1, hgm2, hrdm, _, hcm⟩ := hO12.form (by omega)
  rw [hcl] at evc hcm
  have hgmN : gm ≠ N + 1 := by have := HZ11.out; omega
  obtain ⟨a0, a1, a2, a3, a4, a5, a6, a7, a8, a9, a10, a11, a12, a13, a14, a15, emac⟩ := list16 mac hcl
  subst evc
  have hL12' : Below B w6 w12 := below_more HS11.out hL12 HZ11.out
  have hz12 : B ≤ w12.heap.size := Nat.le_trans HZ11.out hL12.size
  have hC12 : ChB w12.drew N 27 z m := hC6.below hL12'.drew hNB
  have hR12 : Row w12.drew (N + 1) 27 17 := hR6.below hL12'.drew hNB1
  have hM12 : Below N w w12.drew := (below_more hM6 hL12' (by omega)).drew
  have hrd12 : Rd w12.drew gm 0 mac := hrdm
  obtain ⟨B2, hB2⟩ : ∃ B2, w12.heap.size = B2 := ⟨_, rfl⟩
  have hz13 : w12.drew.heap.size = B2 := hB2
  rw [hB2] at hgm2 hz12
  have hNB2 : N + 1 < B2 := by omega
  have hNB3 : N < B2 := by omega
  clear hO12 hL12 hL12' hrdm
  refine wp_region_held (S := fun w' => ChB w' N 27 z m ∧ Rd w' gm 0 mac ∧ Row w' (N + 1) 27 17 ∧ Below N w w') (by kernel_rfl) ?_
  show wpAnyH _ _ _ _ _ 9 _ _ w12.drew
  obtain ⟨w13, ew13⟩ : ∃ x, w12.drew = x := ⟨_, rfl⟩
  rw [ew13] at hC12 hR12 hM12 hrd12 hz13 ⊢
  have hS13 : ChB w13 N 27 z m ∧ Rd w13 gm 0 mac ∧ Row w13 (N + 1) 27 17 ∧ Below N w w13 := ⟨hC12, hrd12, hR12, hM12⟩
  refine wpAnyH_take (i := 0) rfl (by kernel_rfl) (by kernel_rfl) (by kernel_rfl) (fun _ _ _ h => h) (yields_val (by kernel_rfl) (.pointer (some ⟨N, 0, none⟩)) (fun w => by kernel_rfl)) hS13 ?_
  refine wpAnyH_take (i := 1) rfl (by kernel_rfl) (by kernel_rfl) (by kernel_rfl) (fun _ _ _ h => h) (yields_cell (by kernel_rfl) (.int .i64 z) 3 _ rfl ⟨N, 0, none⟩ (by kernel_rfl) (fun w h => load_int w _ _ h) (fun w' hw' => hw'.1.count)) hS13 ?_
  refine wpAnyH_take (i := 2) rfl (by kernel_rfl) (by kernel_rfl) (by kernel_rfl) (fun _ _ _ h => h) (yields_val (by kernel_rfl) (.int .i64 (IntKind.i64.wrap (z + 1))) (fun w => by kernel_rfl)) hS13 ?_
  refine wpAnyH_take (i := 3) rfl (by kernel_rfl) (by kernel_rfl) (by kernel_rfl) (fun _ _ _ h => h) (yields_val (by kernel_rfl) (.slice (some ⟨gm, 0, none⟩) 16 cm) (fun w => by kernel_rfl)) hS13 ?_
  refine wpAnyH_take (i := 4) rfl (by kernel_rfl) (by kernel_rfl) (by kernel_rfl) (fun _ _ _ h => h) (yields_arr (by kernel_rfl) 25 _ rfl (some ⟨gm, 0, none⟩) 16 16 cm 5 (by kernel_rfl) (Nat.le_refl _) (by kernel_rfl)) hS13 ?_
  refine wpAnyH_take (i := 5) rfl (by kernel_rfl) (by kernel_rfl) (by kernel_rfl) (fun _ _ _ h => h) (yields_load (by kernel_rfl) 25 _ rfl gm 0 16 5 mac (by kernel_rfl) (fun w' hw' => hw'.2.1) hcl (by kernel_rfl) (by kernel_rfl)) hS13 ?_
  refine wpAnyH_take (i := 6) rfl (by kernel_rfl) (by kernel_rfl) (by kernel_rfl) (fun _ _ _ h => h) (yields_val (by kernel_rfl) (.agg (ch (IntKind.i64.wrap (z + 1)) mac)) (fun w => by subst emac; kernel_rfl)) hS13 ?_
  refine wpAnyH_all (rs := [7]) (by kernel_rfl) (by decide) ?_
  intro iz hiz
  obtain rfl : iz = 7 := by simpa using hiz
  refine wpOp_store_ch rfl (by kernel_rfl) 27 _ _ rfl (N + 1) 27 (IntKind.i64.wrap (z + 1)) mac (by kernel_rfl) (by kernel_rfl) hR12 hcl (by kernel_rfl) ?_
  intro w14 hC14 hG14 hs14
  have hM14 : Below N w w14 := below_new hM12 (by omega) hG14 (by omega)
  have hS14 : ChB w14 N 27 z m ∧ Rd w14 gm 0 mac ∧ Row w14 (N + 1) 27 17 ∧ Below N w w14 := ⟨hC12.old hG14 (by simp), hrd12.old hG14 (fun e => hgmN (by injection e with e; exact e.symm)), hC14.row hcl, hM14⟩
  refine ⟨hS14, ?_⟩
  refine wpAnyH_take (i := 8) rfl (by kernel_rfl) (by kernel_rfl) (by kernel_rfl) (fun _ _ _ h => h) (yields_val (by kernel_rfl) (.nilIface) (fun w => by kernel_rfl)) hS14 ?_
  refine wpAnyH_done (by kernel_rfl) ?_ _
  rw [HW.out] at hC14
  simp only [Act.put, List.getElem_toArray, List.getElem_cons_succ, List.getElem_cons_zero, List.setIfInBounds_toArray, List.set_cons_succ, List.set_cons_zero]
  go_wp2
  refine bodyPost_ret (results_ch rfl _ _ (N + 1) 27 _ mac rfl hC14 hcl) rfl ?_
  rw [EMAC.out, HN.out]
  exact ⟨rfl, hM14⟩
end Go.Proofs.Ytpfmhohldfnhmaa
set_option linter.unusedVariables false
set_option linter.unusedSimpArgs false
namespace Go.Proofs.Ytpfmhohldfnhmaa
open Go.RowKit Lk
set_option maxHeartbeats 1600000 in
set_option maxRecDepth 100000 in
theorem Next_key (vk : Value) (key : List UInt8) (z : Int) (m : List UInt8) (s : ByteArray) (w : World) (hk : SlB w vk key) (hkl : key.length ≠ 16) (hm : m.length = 16) :
    Calls Try.prog 10 #[vk, .agg (ch z m), .string s] w fun e w' => e = .returned (.tuple #[.agg (ch z m), .iface 49 (.int .i64 2)]) ∧ Below w.heap.size w w' := by
  obtain ⟨N, hN⟩ : ∃ N, w.heap.size = N := ⟨_, rfl⟩
  have HN := Lib.hid hN
  have HM := Lib.hid hm
  obtain ⟨L, hL⟩ : ∃ L, key.length = L := ⟨_, rfl⟩
  obtain ⟨Ak, ck, rfl⟩ := hk.form hL
  have hL16 : ¬ (L : Int) = 16 := by omega
  clear hk hkl hm
  go_enter Try.func10, Try.ntmps10
  go_wp2_with (first
    | ((with_reducible show wpList _ _ _ _ _ w); refine box_ch (w := w) rfl 27 _ rfl z m (by rfl) ?_; intro w1 hC1 hG1 hz1; have hM1 : Below N w w1 := (below_none (Below.refl _ _) (by omega) hG1); rw [hN] at hC1 hz1)
    | ((with_reducible show wpList _ _ _ _ _ w1); refine alloc_row (w := w1) rfl 27 rfl (.agg (ch 0 (List.replicate 16 0))) 17 (fun _ => by kernel_rfl) (by kernel_rfl) ?_; intro w2 hR2 _ hG2 hz2; have hC2 := hC1.old hG2 (by simp); have hM2 : Below N w w2 := (below_none hM1 (by omega) hG2); rw [hz1] at hR2 ⊢)
    | (refine load_ch (by rfl) _ rfl N 27 z m (by rfl) hC2 HM.out ?_)
    | ((with_reducible show wpList _ _ _ _ _ w2); refine store_ch (w := w2) rfl 27 _ _ rfl (N + 1) 27 z m (by rfl) (by rfl) hR2 HM.out (by kernel_rfl) ?_; intro w3 hC3 hG3 hz3; have hM3 : Below N w w3 := below_new hM2 (by omega) hG3 (by omega)))
  refine bodyPost_ret (results_ch rfl _ _ (N + 1) 27 _ m rfl hC3 HM.out) rfl ?_
  rw [HN.out]
  exact ⟨rfl, hM3⟩
set_option maxHeartbeats 1600000 in
set_option maxRecDepth 100000 in
theorem Next_note (vk : Value) (key : List UInt8) (z : Int) (m : List UInt8) (s : ByteArray) (w : World) (hk : SlB w vk key) (hkl : key.length = 16) (hm : m.length = 16) (hs : s.size ≤ 140737488351232) (h : s.size = 0 ∨ 60 < s.size) :
    Calls Try.prog 10 #[vk, .agg (ch z m), .string s] w fun e w' => e = .returned (.tuple #[.agg (ch z m), .iface 49 (.int .i64 2)]) ∧ Below w.heap.size w w' := by
  obtain ⟨N, hN⟩ : ∃ N, w.heap.size = N := ⟨_, rfl⟩
  have HN := Lib.hid hN
  have HM := Lib.hid hm
  have HSS := Lib.hid hs
  have HSN := Lib.hid h
  obtain ⟨Ak, ck, rfl⟩ := hk.form hkl
  clear hk hkl hm hs h
  go_enter Try.func10, Try.ntmps10
  go_wp2_with (first
    | ((with_reducible show wpList _ _ _ _ _ w); refine box_ch (w := w) rfl 27 _ rfl z m (by rfl) ?_; intro w1 hC1 hG1 hz1; have hM1 : Below N w w1 := (below_none (Below.refl _ _) (by omega) hG1); rw [hN] at hC1 hz1)
    | ((with_reducible show wpList _ _ _ _ _ w1); refine alloc_row (w := w1) rfl 27 rfl (.agg (ch 0 (List.replicate 16 0))) 17 (fun _ => by kernel_rfl) (by kernel_rfl) ?_; intro w2 hR2 _ hG2 hz2; have hC2 := hC1.old hG2 (by simp); have hM2 : Below N w w2 := (below_none hM1 (by omega) hG2); rw [hz1] at hR2 ⊢)
    | (go_at_call 19; refine (noted_no s w2 HSS.out HSN.out).mono ?_; rintro e wq ⟨rfl, ewq⟩; subst ewq)
    | (refine load_ch (by rfl) _ rfl N 27 z m (by rfl) (by assumption) HM.out ?_)
    | (refine store_ch rfl 27 _ _ rfl (N + 1) 27 z m (by rfl) (by rfl) (by assumption) HM.out (by kernel_rfl) ?_; intro w3 hC3 hG3 hz3))
  refine bodyPost_ret (results_ch rfl _ _ (N + 1) 27 _ m rfl hC3 HM.out) rfl ?_
  rw [HN.out]
  exact ⟨rfl, below_new (by assumption) (by omega) hG3 (by omega)⟩
set_option maxHeartbeats 1600000 in
set_option maxRecDepth 100000 in
theorem Next_full (vk : Value) (key : List UInt8) (z : Int) (m : List UInt8) (s : ByteArray) (w : World) (hk : SlB w vk key) (hkl : key.length = 16) (hm : m.length = 16) (h1 : 1 ≤ s.size) (h2 : s.size ≤ 60) (hz : 4294967295 ≤ z) :
    Calls Try.prog 10 #[vk, .agg (ch z m), .string s] w fun e w' => e = .returned (.tuple #[.agg (ch z m), .iface 49 (.int .i64 10)]) ∧ Below w.heap.size w w' := by
  obtain ⟨N, hN⟩ : ∃ N, w.heap.size = N := ⟨_, rfl⟩
  have HN := Lib.hid hN
  have HM := Lib.hid hm
  have HS1 := Lib.hid h1
  have HS2 := Lib.hid h2
  obtain ⟨Ak, ck, rfl⟩ := hk.form hkl
  clear hk hkl hm h1 h2
  go_enter Try.func10, Try.ntmps10
  go_wp2_with (first
    | ((with_reducible show wpList _ _ _ _ _ w); refine box_ch (w := w) rfl 27 _ rfl z m (by rfl) ?_; intro w1 hC1 hG1 hz1; have hM1 : Below N w w1 := (below_none (Below.refl _ _) (by omega) hG1); rw [hN] at hC1 hz1)
    | ((with_reducible show wpList _ _ _ _ _ w1); refine alloc_row (w := w1) rfl 27 rfl (.agg (ch 0 (List.replicate 16 0))) 17 (fun _ => by kernel_rfl) (by kernel_rfl) ?_; intro w2 hR2 _ hG2 hz2; have hC2 := hC1.old hG2 (by simp); have hM2 : Below N w w2 := (below_none hM1 (by omega) hG2); have hc2 := hC2.count; rw [hz1] at hR2 ⊢)
    | (go_at_call 19; refine (noted_yes s w2 HS1.out HS2.out).mono ?_; rintro e wq ⟨rfl, ewq⟩; subst ewq)
    | (refine load_ch (by rfl) _ rfl N 27 z m (by rfl) (by assumption) HM.out ?_)
    | (refine store_ch rfl 27 _ _ rfl (N + 1) 27 z m (by rfl) (by rfl) (by assumption) HM.out (by kernel_rfl) ?_; intro w3 hC3 hG3 hz3))
  refine bodyPost_ret (results_ch rfl _ _ (N + 1) 27 _ m rfl hC3 HM.out) rfl ?_
  rw [HN.out]
  exact ⟨rfl, below_new (by assumption) (by omega) hG3 (by omega)⟩
end Go.Proofs.Ytpfmhohldfnhmaa
