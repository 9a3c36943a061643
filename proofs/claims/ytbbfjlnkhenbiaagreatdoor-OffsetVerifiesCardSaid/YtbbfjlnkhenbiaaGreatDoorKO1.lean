/- The references of layers 8 and 14: digits. -/
import Derived.Test.YtbbfjlnkhenbiaaGreatDoorKO0
import Derived.Test.YtbbfjlnkhenbiaaGreatDoorKM0
import Derived.Laws.Concat
import Derived.Test.YtbbfjlnkhenbiaaGreatDoorKB5
import Derived.Test.YtbbfjlnkhenbiaaGreatDoorKB0
set_option linter.unusedVariables false
set_option linter.unusedSimpArgs false
namespace Lk
open Go Go.RowKit
theorem dv_num (c : UInt8) (h1 : 48 ≤ bv c) (h2 : bv c ≤ 57) : (dv c : Int) = bv c - 48 := by
  unfold bv at *
  unfold dv
  rw [if_pos ⟨by omega, by omega⟩]; omega
theorem dv_let (c : UInt8) (h1 : 65 ≤ bv c) (h2 : bv c ≤ 70) : (dv c : Int) = bv c - 55 := by
  unfold bv at *
  unfold dv
  rw [if_neg (by omega), if_pos ⟨by omega, by omega⟩]; omega
theorem dv_non (c : UInt8) (h : ¬ (48 ≤ bv c ∧ bv c ≤ 57)) (h' : ¬ (65 ≤ bv c ∧ bv c ≤ 70)) : dv c = 99 := by
  unfold bv at *
  unfold dv
  rw [if_neg (by omega), if_neg (by omega)]
end Lk
namespace Go.Proofs.YtbbfjlnkhenbiaaGreatDoor
open Go Go.RowKit Lk
set_option maxRecDepth 100000 in
theorem Value_any (c : UInt8) (w : World) : Calls Tryz.prog 68 #[.int .u8 (bv c)] w fun e w' => e = .returned (.int .i64 (dv c)) ∧ w' = w := by
  obtain ⟨z, hz⟩ : ∃ z, bv c = z := ⟨_, rfl⟩
  obtain ⟨d, hd⟩ : ∃ d : Int, (dv c : Int) = d := ⟨_, rfl⟩
  have h0 := bv_ge c
  have hl := bv_lt c
  have H1 := dv_num c
  have H2 := dv_let c
  have H3 := dv_non c
  rw [hz] at h0 hl H1 H2 H3 ⊢
  rw [hd] at H1 H2 ⊢
  have H3' : ¬ (48 ≤ z ∧ z ≤ 57) → ¬ (65 ≤ z ∧ z ≤ 70) → d = 99 := fun h h' => by rw [← hd, H3 h h']; rfl
  clear H3 hz hd
  by_cases a1 : 48 ≤ z
  · have a1' : z ≥ 48 := a1
    by_cases a2 : z ≤ 57
    · obtain rfl := H1 a1 a2
      clear H1 H2 H3'
      go_enter Tryz.func68, Tryz.ntmps68
      go_wp2
      go_ret
      exact ⟨by first | rfl | trivial, rfl⟩
    · by_cases b1 : 65 ≤ z
      · have b1' : z ≥ 65 := b1
        by_cases b2 : z ≤ 70
        · obtain rfl := H2 b1 b2
          clear H1 H2 H3'
          go_enter Tryz.func68, Tryz.ntmps68
          go_wp2
          go_ret
          exact ⟨by first | rfl | trivial, rfl⟩
        · obtain rfl := H3' (by omega) (by omega)
          clear H1 H2 H3'
          go_enter Tryz.func68, Tryz.ntmps68
          go_wp2
          go_ret
          exact ⟨rfl, rfl⟩
      · have b1' : ¬ z ≥ 65 := b1
        obtain rfl := H3' (by omega) (by omega)
        clear H1 H2 H3'
        go_enter Tryz.func68, Tryz.ntmps68
        go_wp2
        go_ret
        exact ⟨rfl, rfl⟩
  · have a1' : ¬ z ≥ 48 := a1
    have b1 : ¬ z ≥ 65 := by omega
    obtain rfl := H3' (by omega) (by omega)
    clear H1 H2 H3'
    go_enter Tryz.func68, Tryz.ntmps68
    go_wp2
    go_ret
    exact ⟨rfl, rfl⟩
theorem run_cv1 (w : World) (y : UInt8) (z : Int) (hz : z = bv y) : (convert 22 9 (.slice (some ⟨w.heap.size, 0, none⟩) 1 1)).run Tryz.prog (w.alloc (.cells #[.int .u8 z] 5)) = .ok (.string (ofL [y])) (w.alloc (.cells #[.int .u8 z] 5)) := by
  subst hz
  refine run_convert_bytes_back _ 22 9 5 ⟨w.heap.size, 0, none⟩ 1 [y] hu_sl (by kernel_rfl) hu_str ?_
  intro j hj
  obtain rfl : j = 0 := by simpa using hj
  have : (⟨w.heap.size, 0, none⟩ : Addr).add 0 = ⟨w.heap.size, 0, none⟩ := by unfold Addr.add; simp
  rw [this, World.cell?_alloc_at _ _ _ _ rfl]
  rfl
set_option maxRecDepth 100000 in
theorem Digit_any (n : Nat) (w : World) (hn : n < 16) : Calls Tryz.prog 89 #[.int .i64 n] w fun e w' => e = .returned (.string (ofL [hx n])) ∧ Below w.heap.size w w' := by
  obtain ⟨y, ey⟩ : ∃ y, hx n = y := ⟨_, rfl⟩
  have hG : ∀ n : Fin 16, bv (hx n.val) = if n.val < 10 then 48 + (n.val : Int) else 55 + (n.val : Int) := by decide +kernel
  have hg := hG ⟨n, hn⟩
  simp only at hg
  clear hG
  by_cases h : n < 10
  · rw [if_pos h, ey] at hg
    have hi : (n : Int) < 10 := by omega
    have hw1 : wrap64 (48 + (n : Int)) = 48 + (n : Int) := by unfold wrap64; omega
    have hcv := run_cv1 w y (48 + (n : Int)) hg.symm
    rw [ey]
    clear ey hg
    go_enter Tryz.func89, Tryz.ntmps89
    go_wp2
    go_ret
    exact ⟨rfl, below_alloc (Below.refl _ _) (Nat.le_refl _) _⟩
  · rw [if_neg h, ey] at hg
    have hi : ¬ (n : Int) < 10 := by omega
    have hw1 : wrap64 (55 + (n : Int)) = 55 + (n : Int) := by unfold wrap64; omega
    have hcv := run_cv1 w y (55 + (n : Int)) hg.symm
    rw [ey]
    clear ey hg h
    go_enter Tryz.func89, Tryz.ntmps89
    go_wp2
    go_ret
    exact ⟨rfl, below_alloc (Below.refl _ _) (Nat.le_refl _) _⟩
set_option maxHeartbeats 1600000 in
set_option maxRecDepth 100000 in
theorem First_any (s : ByteArray) (b : Nat) (w : World) (hs : s.size ≤ 1000) : Calls Tryz.prog 42 #[.string s, .int .i64 b] w fun e w' => e = .returned (.int .i64 (pf b (sb s))) ∧ w' = w := by
  obtain ⟨P, hP⟩ : ∃ P, pf b (sb s) = P := ⟨_, rfl⟩
  have HP := Lib.hid hP
  rw [hP]
  have HSZ := Lib.hid hs
  clear hP hs
  go_enter Tryz.func42, Tryz.ntmps42
  go_wp2
  go_loopw [5] (fun i wr => ∃ k : Nat, k ≤ s.size ∧ i = .int .i64 k ∧ (∀ j, j < k → dv (g8 (sb s) j) < b) ∧ wr = w) (fun i _ => s.size - (intOf i).toNat)
  case atStart => exact ⟨0, by omega, rfl, fun j hj => by omega, rfl⟩
  case round =>
    obtain ⟨k, hk, rfl, hok, rfl⟩ := hrel
    by_cases hlt : k < s.size
    · have hik : (k : Int) < (s.size : Int) := by omega
      have HLT := Lib.hid hlt
      have HOK := Lib.hid hok
      have HV := Lib.hid (show Calls Tryz.prog 68 #[.int .u8 (((s[k]'hlt).toNat : Nat) : Int)] wr fun e w' => e = .returned (.int .i64 (dv (g8 (sb s) k))) ∧ w' = wr from by rw [sget_bv s k hlt]; exact Value_any _ _)
      obtain ⟨q, hq⟩ : ∃ q, dv (g8 (sb s) k) = q := ⟨_, rfl⟩
      rw [hq] at HV
      have HQ := Lib.hid hq
      clear hok hq
      by_cases h0 : b ≤ q
      · have hq0 : (q : Int) ≥ (b : Int) := by omega
        have HH := Lib.hid (pf_at (b := b) (l := sb s) (k := k) (by rw [sb_len]; exact hlt) HOK.out (by rw [HQ.out]; exact h0))
        clear h0
        go_wp2_with (go_at_call 68; refine HV.out.mono ?_; rintro e w5 ⟨rfl, rfl⟩)
        go_ret
        exact ⟨by rw [← HP.out, HH.out]; rfl, rfl⟩
      · have hq0 : ¬ (q : Int) ≥ (b : Int) := by omega
        have HH := Lib.hid h0
        clear h0
        go_wp2_with (go_at_call 68; refine HV.out.mono ?_; rintro e w5 ⟨rfl, rfl⟩)
        refine ⟨⟨k + 1, HLT.out, by have := HLT.out; have := HSZ.out; rw [show wrap64 ((k : Int) + 1) = ((k + 1 : Nat) : Int) from by unfold wrap64; omega], fun j hj => ?_, by first | rfl | trivial⟩, by have := HLT.out; have := HSZ.out; rw [show wrap64 ((k : Int) + 1) = (k : Int) + 1 from by unfold wrap64; omega]; show s.size - ((k : Int) + 1).toNat < s.size - (k : Int).toNat; omega⟩
        by_cases e : j = k
        · rw [e, HQ.out]; have := HH.out; omega
        · exact HOK.out j (by omega)
    · have hik : ¬ (k : Int) < (s.size : Int) := by omega
      have HH := Lib.hid (pf_none (b := b) (l := sb s) fun j hj => hok j (by rw [sb_len] at hj; omega))
      clear hok
      go_wp2
      go_ret
      exact ⟨by rw [← HP.out, HH.out]; rfl, rfl⟩
set_option maxRecDepth 100000 in
theorem Wrong_any (s : ByteArray) (least most : Nat) (w : World) (hs : s.size ≤ 1000) : Calls Tryz.prog 38 #[.string s, .int .i64 least, .int .i64 most] w fun e w' => e = .returned (.tuple #[.int .i64 (pwrong (sb s) least most).1, .int .i64 (pwrong (sb s) least most).2]) ∧ w' = w := by
  have HF := Lib.hid (First_any s 10 w hs)
  unfold pwrong
  rw [sb_len]
  by_cases h1 : s.size < least
  · rw [if_pos (.inl h1)]
    have i1 : (s.size : Int) < (least : Int) := by omega
    clear h1 hs
    go_enter Tryz.func38, Tryz.ntmps38
    go_wp2
    go_ret2
    exact ⟨rfl, rfl⟩
  by_cases h2 : most < s.size
  · rw [if_pos (.inr h2)]
    have i1 : ¬ (s.size : Int) < (least : Int) := by omega
    have i2 : (s.size : Int) > (most : Int) := by omega
    clear h1 h2 hs
    go_enter Tryz.func38, Tryz.ntmps38
    go_wp2
    go_ret2
    exact ⟨rfl, rfl⟩
  rw [if_neg (by omega)]
  have i1 : ¬ (s.size : Int) < (least : Int) := by omega
  have i2 : ¬ (s.size : Int) > (most : Int) := by omega
  obtain ⟨P, hP⟩ : ∃ P, pf 10 (sb s) = P := ⟨_, rfl⟩
  rw [hP] at HF ⊢
  clear h1 h2 hs hP
  by_cases h3 : 0 ≤ P
  · rw [if_pos h3]
    have h3' : P ≥ 0 := h3
    go_enter Tryz.func38, Tryz.ntmps38
    go_wp2_with (go_at_call 42; refine HF.out.mono ?_; rintro e w5 ⟨rfl, rfl⟩)
    go_ret2
    exact ⟨rfl, rfl⟩
  · rw [if_neg h3]
    have h3' : ¬ P ≥ 0 := h3
    go_enter Tryz.func38, Tryz.ntmps38
    go_wp2_with (go_at_call 42; refine HF.out.mono ?_; rintro e w5 ⟨rfl, rfl⟩)
    go_ret2
    exact ⟨rfl, rfl⟩
end Go.Proofs.YtbbfjlnkhenbiaaGreatDoor
set_option linter.unusedVariables false
set_option linter.unusedSimpArgs false
namespace Lk
open Go Go.RowKit
theorem ofL_app (a b : List UInt8) : ofL a ++ ofL b = ofL (a ++ b) := by unfold ofL; rw [ByteArray.mk_append_mk]
theorem exec_sadd {P : Program} (o : Oper) (a : Act) (t r : TypeId) (x y : Operand) (ho : o.op = .binOp .add t x y r) (l m : List UInt8) (hx : a.eval x = .string (ofL l)) (hy : a.eval y = .string (ofL m)) (h : l.length + m.length ≤ 1000000) (w : World) :
    (execOp a.eval o).run P w = .ok (.value (.string (ofL (l ++ m)))) w := by
  have h1 := run_string_add_sum (P := P) w (ofL l) (ofL m) (by rw [ofL_size, ofL_size]; omega)
  rw [ofL_app] at h1
  unfold execOp
  simp only [ho, hx, hy]
  simp [eqGuard, binOp_string_add, h1, Sem.run_bind, Sem.run_pure, Result.andThen]
theorem op_sadd {P : Program} {ops : Array Oper} {rest : List Oper} {o : Oper} {a : Act} {w : World} {Q : Exit → Act → World → Prop} (hgd : o.guard = none) (t r : TypeId) (x y : Operand) (ho : o.op = .binOp .add t x y r) (l m : List UInt8) (hx : a.eval x = .string (ofL l)) (hy : a.eval y = .string (ofL m)) (h : l.length + m.length ≤ 1000000)
    (hk : wpList P ops Q rest (a.put o.dst (.string (ofL (l ++ m)))) w) : wpList P ops Q (o :: rest) a w :=
  wpList_plain hgd fun _ hK => by
    unfold Oper.wp
    rw [exec_sadd o a t r x y ho l m hx hy h w]
    exact hK _ _ hk
theorem wrap_bv (d : UInt8) : wrap64 (bv d) = bv d := by unfold bv wrap64; have := d.toNat_lt; omega
end Lk
namespace Go.Proofs.YtbbfjlnkhenbiaaGreatDoor
open Go Go.RowKit Lk
set_option maxHeartbeats 3200000 in
set_option maxRecDepth 100000 in
theorem rHex_any (v : Value) (b : List UInt8) (w : World) (h : SlB w v b) (hl : b.length ≤ 1000) : Calls Tryz.prog 65 #[v] w fun e w' => e = .returned (.string (ofL (phex b))) ∧ Below w.heap.size w w' := by
  obtain ⟨N, hN⟩ : ∃ N, w.heap.size = N := ⟨_, rfl⟩
  have HN := Lib.hid hN
  obtain ⟨A, c, rfl, hA, hlc, hcm, hr⟩ := h
  have HL := Lib.hid hl
  obtain ⟨L, eL⟩ : ∃ L, b.length = L := ⟨_, rfl⟩
  have EL := Lib.hid eL
  have HR := Lib.hid hr
  rw [eL] at hl hlc ⊢
  have HC := Lib.hid hlc
  clear hA hcm hr hl hlc hN eL
  go_enter Tryz.func65, Tryz.ntmps65
  go_wp2
  go_loopw [3, 4] (fun o i wr => ∃ k : Nat, k ≤ L ∧ i = .int .i64 k ∧ o = .string (ofL (phex (b.take k))) ∧ Below N w wr) (fun _ i _ => L - (intOf i).toNat)
  case atStart => exact ⟨0, by omega, rfl, rfl, Below.refl _ _⟩
  case round =>
    obtain ⟨k, hk, rfl, rfl, hM⟩ := hrel
    have HM := Lib.hid hM
    clear hM
    by_cases hlt : k < L
    · have hik : (k : Int) < (L : Int) := by omega
      have HLT := Lib.hid hlt
      obtain ⟨gt, ot, rfl, hrd0⟩ := HR.out (by have := HC.out; omega)
      have hrd := hrd0.under3 (w1 := wr) (by rw [HN.out]; exact HM.out)
      obtain ⟨d, ed⟩ : ∃ d, g8 b k = d := ⟨_, rfl⟩
      have cc := hrd.cell k (by rw [EL.out]; exact hlt)
      rw [ed] at cc
      have HCC := Lib.hid (fun (w9 : World) (h : Below wr.heap.size wr w9) => cell_below cc h (block_of_cell cc))
      have HED := Lib.hid ed
      have HPL := Lib.hid (show (phex (b.take k)).length ≤ 3000 from by rw [phex_len, List.length_take]; have := HL.out; omega)
      obtain ⟨P, eP⟩ : ∃ P, phex (b.take k) = P := ⟨_, rfl⟩
      rw [eP] at HPL ⊢
      have HEP := Lib.hid eP
      have HD1 := Lib.hid (fun w => Digit_any (d.toNat / 16) w (by have := d.toNat_lt; omega))
      have HD2 := Lib.hid (fun w => Digit_any (d.toNat % 16) w (by omega))
      obtain ⟨h1, eh1⟩ : ∃ h1, hx (d.toNat / 16) = h1 := ⟨_, rfl⟩
      obtain ⟨h2, eh2⟩ : ∃ h2, hx (d.toNat % 16) = h2 := ⟨_, rfl⟩
      rw [eh1] at HD1
      rw [eh2] at HD2
      have E1 := Lib.hid eh1
      have E2 := Lib.hid eh2
      clear eh1 eh2 hrd hrd0 cc ed eP hlt
      go_wp2
      obtain ⟨M, eM⟩ : ∃ M, wr.heap.size = M := ⟨_, rfl⟩
      have HSM := Lib.hid (show ∀ w9, Below M wr w9 → M ≤ w9.heap.size from fun w9 h => by rw [← eM]; exact h.size)
      refine wp_region_cls (fun w9 => ∃ x : BSub M wr, w9 = x.is) (by kernel_rfl) (by kernel_rfl) (bcls_of (by rw [← eM]; exact below_drew _)) ?_
      have hcc : ∀ x : BSub M wr, x.is.cell? ⟨gt, ot + k, none⟩ = some (.int .u8 (bv d)) := fun x => HCC.out _ (by rw [eM]; exact x.property)
      repeat (go_big_quiet_step (fail))
      rw [show wrap64 ((wrap64 (bv d)).tdiv 16) = ((d.toNat / 16 : Nat) : Int) from by rw [wrap_bv]; unfold bv; rw [Int.tdiv_eq_ediv_of_nonneg (by omega)]; unfold wrap64; have := d.toNat_lt; omega]
      refine quiet_enter (by kernel_rfl) 89 #[.int .i64 ((d.toNat / 16 : Nat) : Int)] (.string (ofL [h1])) (fun _ => by kernel_rfl) (fun w9 h9x => by have h9 := of_bcls h9x; exact (HD1.out w9).mono fun e w10 ⟨q1, q2⟩ => ⟨q1, bcls_of (below_more h9 q2 (HSM.out w9 h9))⟩) ?_
      simp only [Act.put, List.setIfInBounds_toArray, List.set_cons_succ, List.set_cons_zero]
      refine quiet_val (by kernel_rfl) (.string (ofL (P ++ [h1]))) (fun w => exec_sadd _ _ _ _ _ _ rfl P [h1] (by kernel_rfl) (by kernel_rfl) (by have := HPL.out; simp; omega) w) ?_
      simp only [Act.put, List.setIfInBounds_toArray, List.set_cons_succ, List.set_cons_zero]
      repeat (go_big_quiet_step (fail))
      rw [show (wrap64 (bv d)).tmod 16 = ((d.toNat % 16 : Nat) : Int) from by rw [wrap_bv]; unfold bv; rw [Int.tmod_eq_emod_of_nonneg (by omega)]; omega]
      refine quiet_enter (by kernel_rfl) 89 #[.int .i64 ((d.toNat % 16 : Nat) : Int)] (.string (ofL [h2])) (fun _ => by kernel_rfl) (fun w9 h9x => by have h9 := of_bcls h9x; exact (HD2.out w9).mono fun e w10 ⟨q1, q2⟩ => ⟨q1, bcls_of (below_more h9 q2 (HSM.out w9 h9))⟩) ?_
      simp only [Act.put, List.setIfInBounds_toArray, List.set_cons_succ, List.set_cons_zero]
      refine quiet_val (by kernel_rfl) (.string (ofL (P ++ [h1] ++ [h2]))) (fun w => exec_sadd _ _ _ _ _ _ rfl (P ++ [h1]) [h2] (by kernel_rfl) (by kernel_rfl) (by have := HPL.out; simp; omega) w) ?_
      simp only [Act.put, List.setIfInBounds_toArray, List.set_cons_succ, List.set_cons_zero]
      repeat (go_big_quiet_step (fail))
      refine wpQuiet_nil ?_
      intro w2 h9x
      have hL2 := of_bcls h9x
      clear h9x hcc
      go_wp2
      go_roundw
      case rel =>
        refine ⟨k + 1, HLT.out, by have := HLT.out; have := HL.out; have := EL.out; rw [show wrap64 ((k : Int) + 1) = ((k + 1 : Nat) : Int) from by unfold wrap64; omega], ?_, below_more HM.out hL2 (by have := HM.out.size; have := HN.out; omega)⟩
        have hk : k < b.length := by rw [EL.out]; exact HLT.out
        rw [show b.take (k + 1) = b.take k ++ [g8 b k] from by rw [List.take_add_one]; simp [g8, hk], phex_snoc, HEP.out, HED.out, E1.out, E2.out, List.append_assoc]
        rfl
      case measure =>
        have := HLT.out; have := HL.out; have := EL.out
        rw [show wrap64 ((k : Int) + 1) = (k : Int) + 1 from by unfold wrap64; omega]
        show L - ((k : Int) + 1).toNat < L - ((k : Int)).toNat
        omega
    · have hik : ¬ (k : Int) < (L : Int) := by omega
      have HE := Lib.hid (show phex (b.take k) = phex b from by rw [List.take_of_length_le (by have := EL.out; omega)])
      clear hlt
      go_wp2
      go_ret
      exact ⟨by rw [← HE.out]; rfl, by rw [HN.out]; exact HM.out⟩
set_option maxHeartbeats 3200000 in
set_option maxRecDepth 100000 in
theorem rUnhex_any (s : ByteArray) (m : Nat) (w : World) (hm : s.size = 2 * m) (hs : m ≤ 1000) (hk : pf 16 (sb s) = -1) : Calls Tryz.prog 67 #[.string s] w fun e w' => ∃ v, e = .returned v ∧ Own w' w.heap.size v (unTo (sb s) m) ∧ Below w.heap.size w w' := by
  obtain ⟨N, hN⟩ : ∃ N, w.heap.size = N := ⟨_, rfl⟩
  have HN := Lib.hid hN
  have hd2 : ∀ j, j < s.size → dv (g8 (sb s) j) < 16 := fun j hj => (pf_neg (show pf 16 (sb s) < 0 by omega)).2 j (by rw [sb_len]; exact hj)
  have HD := Lib.hid hd2
  have HS := Lib.hid hs
  have HM := Lib.hid hm
  clear hs hk hd2 hN hm
  go_enter Tryz.func67, Tryz.ntmps67
  go_wp2
  go_loopw [3, 4] (fun o i wr => ∃ (k : Nat) (vo : Value), k ≤ m ∧ i = .int .i64 ((2 * k : Nat) : Int) ∧ vo = o ∧ Own wr N vo (unTo (sb s) k) ∧ Below N w wr) (fun _ i _ => 2 * m - (intOf i).toNat)
  case atStart => exact ⟨0, _, by omega, rfl, rfl, own_nil _ _, Below.refl _ _⟩
  case round =>
    obtain ⟨k, o, hk, rfl, ho0, hO, hM1⟩ := hrel
    subst ho0
    have HO := Lib.hid hO
    have HM1 := Lib.hid hM1
    clear hO hM1
    by_cases hlt : k < m
    · have hl1 : 2 * k < s.size := by have := HM.out; omega
      have hl2 : 2 * k + 1 < s.size := by have := HM.out; omega
      have hi1 : ((2 * k : Nat) : Int) < (s.size : Int) := by omega
      obtain ⟨j, ej⟩ : ∃ j, 2 * k = j := ⟨_, rfl⟩
      rw [ej] at hl1 hl2 hi1 ⊢
      obtain ⟨j1, ej1⟩ : ∃ j1, j + 1 = j1 := ⟨_, rfl⟩
      rw [ej1] at hl2
      have hi2 : (j1 : Int) < (s.size : Int) := by omega
      have hi3 : (j : Int) + 1 < (s.size : Int) := by omega
      have hw1 : wrap64 ((j : Int) + 1) = (j1 : Int) := by have := HS.out; unfold wrap64; omega
      have hw2 : IntKind.i64.wrap ((j : Int) + 1) = (j1 : Int) := (IntWalk.i64_in _ (by have := HS.out; omega)).trans (by omega)
      go_wp2
      obtain ⟨p, ep⟩ : ∃ p, dv (g8 (sb s) j) = p := ⟨_, rfl⟩
      obtain ⟨q, eq⟩ : ∃ q, dv (g8 (sb s) j1) = q := ⟨_, rfl⟩
      have hp := HD.out j hl1
      have hq := HD.out j1 hl2
      obtain ⟨a1, ea1⟩ : ∃ a, g8 (sb s) j = a := ⟨_, rfl⟩
      obtain ⟨a2, ea2⟩ : ∃ a, g8 (sb s) j1 = a := ⟨_, rfl⟩
      have X1 := exec_index (P := Tryz.prog) (t := 9) (by kernel_rfl) s j hl1
      have X2 := exec_index (P := Tryz.prog) (t := 9) (by kernel_rfl) s j1 hl2
      rw [ep] at hp
      rw [eq] at hq
      rw [ea1] at X1 ep
      rw [ea2] at X2 eq
      have IX1 := Lib.hid (fun w => Value_any a1 w)
      have IX2 := Lib.hid (fun w => Value_any a2 w)
      rw [ep] at IX1
      rw [eq] at IX2
      obtain ⟨y, ey⟩ : ∃ y, UInt8.ofNat (16 * p + q) = y := ⟨_, rfl⟩
      have EY := Lib.hid (show unTo (sb s) (k + 1) = unTo (sb s) k ++ [y] from by rw [unTo_succ, ej, ej1, ea1, ea2, ep, eq, ey])
      obtain ⟨P, eP⟩ : ∃ P, 16 * p = P := ⟨_, rfl⟩
      obtain ⟨R, eR⟩ : ∃ R, P + q = R := ⟨_, rfl⟩
      have hb1 : IntKind.i64.wrap (16 * (p : Int)) = (P : Int) := (IntWalk.i64_in _ (by omega)).trans (by omega)
      have hb2 : IntKind.i64.wrap ((P : Int) + (q : Int)) = (R : Int) := (IntWalk.i64_in _ (by omega)).trans (by omega)
      have hb3 : IntKind.u8.wrap (R : Int) = bv y := by rw [IntKind.wrap_u8, ← ey, ← eR, ← eP]; unfold bv; rw [UInt8.toNat_ofNat', Nat.mod_eq_of_lt (by omega)]; omega
      have HJ := Lib.hid hlt
      have HEJ := Lib.hid ej
      clear ep eq hp hq ey eP eR ej ej1 hlt ea1 ea2
      have hS : True := trivial
      refine wp_region_held (S := fun _ => True) (by kernel_rfl) ?_
      show wpAnyH _ _ _ _ _ 16 _ _ wr.drew
      refine tkw 0 12 rfl rfl (by kernel_rfl) o idq (fun _ => by kernel_rfl) hS ?_
      refine tkw 1 13 rfl rfl (by kernel_rfl) (.string s) idq (fun _ => by kernel_rfl) hS ?_
      refine tkw 2 14 rfl rfl (by kernel_rfl) (.int .i64 j) idq (fun _ => by kernel_rfl) hS ?_
      refine tkw 3 15 rfl rfl (by kernel_rfl) (.int .u8 (bv a1)) idq (fun w => X1 _ _ _ _ .i64 rfl (by kernel_rfl) (by kernel_rfl) w) hS ?_
      refine tkw 6 18 rfl rfl (by kernel_rfl) (.string s) idq (fun _ => by kernel_rfl) hS ?_
      refine tkw 7 19 rfl rfl (by kernel_rfl) (.int .i64 j) idq (fun _ => by kernel_rfl) hS ?_
      refine tkw 8 20 rfl rfl (by kernel_rfl) (.int .i64 j1) idq (fun _ => by rw [← hw2]; kernel_rfl) hS ?_
      refine tkw 9 21 rfl rfl (by kernel_rfl) (.int .u8 (bv a2)) idq (fun w => X2 _ _ _ _ .i64 rfl (by kernel_rfl) (by kernel_rfl) w) hS ?_
      refine anyH_one 4 (by kernel_rfl) ?_
      refine opH_enter (some 16) rfl rfl (by kernel_rfl) 68 #[.int .u8 (bv a1)] (fun v wq => v = .int .i64 p ∧ wq = wr.drew) (by kernel_rfl) ((IX1.out wr.drew).mono fun e wq ⟨q1, q2⟩ => ⟨_, q1, rfl, q2⟩) ?_
      rintro _ _ ⟨rfl, rfl⟩
      refine ⟨hS, ?_⟩
      refine tkw 5 17 rfl rfl (by kernel_rfl) (.int .i64 P) idq (fun _ => by rw [← hb1]; kernel_rfl) hS ?_
      refine anyH_one 10 (by kernel_rfl) ?_
      refine opH_enter (some 22) rfl rfl (by kernel_rfl) 68 #[.int .u8 (bv a2)] (fun v wq => v = .int .i64 q ∧ wq = wr.drew) (by kernel_rfl) ((IX2.out wr.drew).mono fun e wq ⟨q1, q2⟩ => ⟨_, q1, rfl, q2⟩) ?_
      rintro _ _ ⟨rfl, rfl⟩
      refine ⟨hS, ?_⟩
      refine tkw 11 23 rfl rfl (by kernel_rfl) (.int .i64 R) idq (fun _ => by rw [← hb2]; kernel_rfl) hS ?_
      refine tkw 12 24 rfl rfl (by kernel_rfl) (.int .u8 (bv y)) idq (fun _ => by rw [← hb3]; kernel_rfl) hS ?_
      have hz : N ≤ wr.heap.size := by have := HM1.out.size; have := HN.out; omega
      refine anyH_one 13 (by kernel_rfl) ?_
      refine ⟨wpOp_run rfl (by kernel_rfl) (.slice (some ⟨wr.heap.size, 0, none⟩) 1 1) (wr.drew.alloc (.cells #[.int .u8 (bv y)] 5)) (by kernel_rfl) ⟨hS, ?_⟩⟩
      have hsl : SlB (wr.drew.alloc (.cells #[.int .u8 (bv y)] 5)) (.slice (some ⟨wr.heap.size, 0, none⟩) 1 1) [y] := one_slB wr.drew y
      have hw3 : Own (wr.drew.alloc (.cells #[.int .u8 (bv y)] 5)) N o (unTo (sb s) k) := HO.out.drew.alloc _
      have hBw : Below N w (wr.drew.alloc (.cells #[.int .u8 (bv y)] 5)) := below_alloc HM1.out.drew hz _
      have hzw : N ≤ (wr.drew.alloc (.cells #[.int .u8 (bv y)] 5)).heap.size := hBw.size |> fun h => by have := HN.out; omega
      generalize wr.drew.alloc (.cells #[.int .u8 (bv y)] 5) = w3 at hsl hw3 hBw hzw ⊢
      refine anyH_one 14 (by kernel_rfl) ?_
      refine ⟨wpOp_append rfl (by kernel_rfl) hu_sl hu_u8 _ _ rfl N o (unTo (sb s) k) (by kernel_rfl) hw3 ⟨wr.heap.size, 0, none⟩ 1 1 [y] (by kernel_rfl) hsl (by rw [unTo_len]; have := HJ.out; have := HS.out; simp; omega) hzw ?_⟩
      intro v4 w4 hO4 hG4
      refine ⟨hS, ?_⟩
      refine tkw 15 3 rfl rfl (by kernel_rfl) v4 idq (fun _ => by kernel_rfl) hS ?_
      refine wpAnyH_done (by kernel_rfl) ?_ _
      simp only [Act.put, List.setIfInBounds_toArray, List.set_cons_succ, List.set_cons_zero]
      have hB4 := below_own hBw hzw hw3 hG4
      clear hw3 hsl hG4 hBw hzw hb1 hb2 hb3 X1 X2
      go_wp2
      go_roundw
      case rel =>
        exact ⟨k + 1, _, HJ.out, by have := HEJ.out; have := HJ.out; have := HS.out; rw [show wrap64 ((j : Int) + 2) = ((2 * (k + 1) : Nat) : Int) from by unfold wrap64; omega], rfl, by rw [EY.out]; exact hO4, hB4⟩
      case measure =>
        have := HEJ.out; have := HJ.out; have := HS.out
        rw [show wrap64 ((j : Int) + 2) = (j : Int) + 2 from by unfold wrap64; omega]
        show 2 * m - ((j : Int) + 2).toNat < 2 * m - ((j : Int)).toNat
        omega
    · have hkm : k = m := by omega
      have HE := Lib.hid hkm
      obtain ⟨j, ej⟩ : ∃ j, 2 * k = j := ⟨_, rfl⟩
      have hw1 : wrap64 ((j : Int) + 1) = (j : Int) + 1 := by have := HS.out; unfold wrap64; omega
      have hi1 : ¬ (j : Int) + 1 < (s.size : Int) := by have := HM.out; omega
      rw [ej]
      clear hkm ej
      go_wp2
      go_ret
      refine ⟨_, rfl, ?_, ?_⟩
      · rw [HN.out, ← HE.out]; exact HO.out
      · rw [HN.out]; exact HM1.out
end Go.Proofs.YtbbfjlnkhenbiaaGreatDoor
set_option linter.unusedVariables false
set_option linter.unusedSimpArgs false
namespace Go.Proofs.YtbbfjlnkhenbiaaGreatDoor
open Go Go.RowKit Lk
set_option maxHeartbeats 3200000 in
set_option maxRecDepth 100000 in
theorem rMod_any (s t : ByteArray) (back : Bool) (w : World) (hs : s.size ≤ 1000) (ht : s.size = t.size) (h1 : pf 10 (sb s) = -1) (h2 : pf 10 (sb t) = -1) : Calls Tryz.prog 72 #[.string s, .string t, .bool back] w fun e w' => e = .returned (.string (ofL (pmod (sb s) (sb t) back))) ∧ Below w.heap.size w w' := by
  obtain ⟨N, hN⟩ : ∃ N, w.heap.size = N := ⟨_, rfl⟩
  have HN := Lib.hid hN
  have HD1 := Lib.hid (pf_neg (show pf 10 (sb s) < 0 by omega)).2
  have HD2 := Lib.hid (pf_neg (show pf 10 (sb t) < 0 by omega)).2
  have HT := Lib.hid ht
  have HSZ := Lib.hid hs
  clear ht h1 h2 hs hN
  go_enter Tryz.func72, Tryz.ntmps72
  go_wp2
  go_loopw [7, 8] (fun o i wr => ∃ k : Nat, k ≤ s.size ∧ i = .int .i64 k ∧ o = .string (ofL (modTo (sb s) (sb t) back k)) ∧ Below N w wr) (fun _ i _ => s.size - (intOf i).toNat)
  case atStart => exact ⟨0, by omega, rfl, rfl, Below.refl _ _⟩
  case round =>
    obtain ⟨k, hk, rfl, rfl, hM⟩ := hrel
    have HM := Lib.hid hM
    clear hM
    by_cases hlt : k < s.size
    · have hik : (k : Int) < (s.size : Int) := by omega
      have HLT := Lib.hid hlt
      have hlt2 : k < t.size := by have := HT.out; omega
      have hik2 : (k : Int) < (t.size : Int) := by omega
      obtain ⟨p, ep⟩ : ∃ p, dv (g8 (sb s) k) = p := ⟨_, rfl⟩
      obtain ⟨q, eq⟩ : ∃ q, dv (g8 (sb t) k) = q := ⟨_, rfl⟩
      have EP := Lib.hid ep
      have EQ := Lib.hid eq
      have p9 : p < 10 := by rw [← ep]; exact HD1.out k (by rw [sb_len]; exact hlt)
      have q9 : q < 10 := by rw [← eq]; exact HD2.out k (by rw [sb_len]; exact hlt2)
      have HVs := Lib.hid (fun wq => (show Calls Tryz.prog 68 #[.int .u8 (((s[k]'hlt).toNat : Nat) : Int)] wq fun e w' => e = .returned (.int .i64 p) ∧ w' = wq from by rw [sget_bv s k hlt, ← ep]; exact Value_any _ _))
      have HVt := Lib.hid (fun wq => (show Calls Tryz.prog 68 #[.int .u8 (((t[k]'hlt2).toNat : Nat) : Int)] wq fun e w' => e = .returned (.int .i64 q) ∧ w' = wq from by rw [sget_bv t k hlt2, ← eq]; exact Value_any _ _))
      clear ep eq
      obtain ⟨P, eP⟩ : ∃ P, modTo (sb s) (sb t) back k = P := ⟨_, rfl⟩
      have HPL := Lib.hid (show P.length ≤ 3000 from by rw [← eP, modTo_len]; have := HSZ.out; omega)
      have HEP := Lib.hid eP
      rw [eP]
      clear eP
      cases back
      · have hw1 : wrap64 ((p : Int) + (q : Int)) = (p : Int) + (q : Int) := by unfold wrap64; omega
        have HD := Lib.hid (fun w => Digit_any ((p + q) % 10) w (by omega))
        obtain ⟨h1, eh1⟩ : ∃ h1, hx ((p + q) % 10) = h1 := ⟨_, rfl⟩
        rw [eh1] at HD
        have EH := Lib.hid (show modTo (sb s) (sb t) false (k + 1) = P ++ [h1] from by rw [modTo_succ, HEP.out, ← eh1]; unfold padd; rw [EP.out, EQ.out]; rfl)
        have HP9 := Lib.hid p9
        have HQ9 := Lib.hid q9
        clear eh1
        go_wp2
        refine wp_region_cls (fun w9 => ∃ n, w9 = wr.drewN n) (by kernel_rfl) (by kernel_rfl) ⟨1, rfl⟩ ?_
        repeat (go_big_quiet_step (fail))
        refine quiet_enter (by kernel_rfl) 68 #[.int .u8 (((s[k]'hlt).toNat : Nat) : Int)] (.int .i64 p) (fun _ => by kernel_rfl) (fun w9 h9 => by obtain ⟨n9, h9⟩ := h9; exact (HVs.out w9).mono fun e w' q => ⟨q.1, n9, q.2.trans h9⟩) ?_
        simp only [Act.put, List.setIfInBounds_toArray, List.set_cons_succ, List.set_cons_zero]
        repeat (go_big_quiet_step (fail))
        refine quiet_enter (by kernel_rfl) 68 #[.int .u8 (((t[k]'hlt2).toNat : Nat) : Int)] (.int .i64 q) (fun _ => by kernel_rfl) (fun w9 h9 => by obtain ⟨n9, h9⟩ := h9; exact (HVt.out w9).mono fun e w' q => ⟨q.1, n9, q.2.trans h9⟩) ?_
        simp only [Act.put, List.setIfInBounds_toArray, List.set_cons_succ, List.set_cons_zero]
        repeat (go_big_quiet_step (fail))
        refine wpQuiet_nil ?_
        rintro _ ⟨nq, rfl⟩
        go_wp2_with (first
          | (go_at_call 89; rw [show (((p : Int) + (q : Int)) % 10) = (((p + q) % 10 : Nat) : Int) from by have := HP9.out; have := HQ9.out; omega]; refine (HD.out _).mono ?_; rintro e w2 ⟨rfl, hL2⟩)
          | ((with_reducible show wpList _ _ _ _ _ w2); refine op_sadd (w := w2) rfl _ _ _ _ rfl P [h1] (by rfl) (by rfl) (by have := HPL.out; simp; omega) ?_))
        refine ⟨⟨k + 1, HLT.out, by have := HLT.out; have := HSZ.out; rw [show wrap64 ((k : Int) + 1) = ((k + 1 : Nat) : Int) from by unfold wrap64; omega], by rw [EH.out], below_mr (below_mr HM.out (Drawn.below0 ⟨nq, rfl⟩) (by have := HM.out.size; have := HN.out; omega)) hL2 (by have := HM.out.size; have := HN.out; show N ≤ wr.heap.size; omega)⟩, by have := HLT.out; have := HSZ.out; rw [show wrap64 ((k : Int) + 1) = (k : Int) + 1 from by unfold wrap64; omega]; show s.size - ((k : Int) + 1).toNat < s.size - (k : Int).toNat; omega⟩
      · have hw0 : wrap64 ((p : Int) + (q : Int)) = (p : Int) + (q : Int) := by unfold wrap64; omega
        have hw1 : wrap64 ((p : Int) - (q : Int)) = (p : Int) - (q : Int) := by unfold wrap64; omega
        obtain ⟨R, eR⟩ : ∃ R, p + (10 - q) = R := ⟨_, rfl⟩
        have hw2 : wrap64 ((p : Int) - (q : Int) + 10) = (R : Int) := by unfold wrap64; omega
        have HER := Lib.hid eR
        clear eR
        have HD := Lib.hid (fun w => Digit_any (R % 10) w (by omega))
        obtain ⟨h1, eh1⟩ : ∃ h1, hx (R % 10) = h1 := ⟨_, rfl⟩
        rw [eh1] at HD
        have EH := Lib.hid (show modTo (sb s) (sb t) true (k + 1) = P ++ [h1] from by rw [modTo_succ, HEP.out, ← eh1]; unfold padd; rw [EP.out, EQ.out, ← HER.out]; rfl)
        have HP9 := Lib.hid p9
        have HQ9 := Lib.hid q9
        clear eh1
        go_wp2
        refine wp_region_cls (fun w9 => ∃ n, w9 = wr.drewN n) (by kernel_rfl) (by kernel_rfl) ⟨1, rfl⟩ ?_
        repeat (go_big_quiet_step (fail))
        refine quiet_enter (by kernel_rfl) 68 #[.int .u8 (((s[k]'hlt).toNat : Nat) : Int)] (.int .i64 p) (fun _ => by kernel_rfl) (fun w9 h9 => by obtain ⟨n9, h9⟩ := h9; exact (HVs.out w9).mono fun e w' q => ⟨q.1, n9, q.2.trans h9⟩) ?_
        simp only [Act.put, List.setIfInBounds_toArray, List.set_cons_succ, List.set_cons_zero]
        repeat (go_big_quiet_step (fail))
        refine quiet_enter (by kernel_rfl) 68 #[.int .u8 (((t[k]'hlt2).toNat : Nat) : Int)] (.int .i64 q) (fun _ => by kernel_rfl) (fun w9 h9 => by obtain ⟨n9, h9⟩ := h9; exact (HVt.out w9).mono fun e w' q => ⟨q.1, n9, q.2.trans h9⟩) ?_
        simp only [Act.put, List.setIfInBounds_toArray, List.set_cons_succ, List.set_cons_zero]
        repeat (go_big_quiet_step (fail))
        refine wpQuiet_nil ?_
        rintro _ ⟨nq, rfl⟩
        have hMv : Below N w (wr.drewN nq) := below_mr HM.out (Drawn.below0 ⟨nq, rfl⟩) (by have := HM.out.size; have := HN.out; omega)
        generalize wr.drewN nq = v at hMv ⊢
        have HMv := Lib.hid hMv
        clear hMv
        go_wp2
        refine wp_region_cls (fun w9 => ∃ n, w9 = v.drewN n) (by kernel_rfl) (by kernel_rfl) ⟨1, rfl⟩ ?_
        repeat (go_big_quiet_step (fail))
        refine quiet_enter (by kernel_rfl) 68 #[.int .u8 (((s[k]'hlt).toNat : Nat) : Int)] (.int .i64 p) (fun _ => by kernel_rfl) (fun w9 h9 => by obtain ⟨n9, h9⟩ := h9; exact (HVs.out w9).mono fun e w' q => ⟨q.1, n9, q.2.trans h9⟩) ?_
        simp only [Act.put, List.setIfInBounds_toArray, List.set_cons_succ, List.set_cons_zero]
        repeat (go_big_quiet_step (fail))
        refine quiet_enter (by kernel_rfl) 68 #[.int .u8 (((t[k]'hlt2).toNat : Nat) : Int)] (.int .i64 q) (fun _ => by kernel_rfl) (fun w9 h9 => by obtain ⟨n9, h9⟩ := h9; exact (HVt.out w9).mono fun e w' q => ⟨q.1, n9, q.2.trans h9⟩) ?_
        simp only [Act.put, List.setIfInBounds_toArray, List.set_cons_succ, List.set_cons_zero]
        repeat (go_big_quiet_step (fail))
        refine wpQuiet_nil ?_
        rintro _ ⟨nq2, rfl⟩
        go_wp2_with (first
          | (go_at_call 89; rw [show ((p : Int) - (q : Int)) % 10 = ((R % 10 : Nat) : Int) from by have := HER.out; have := HP9.out; have := HQ9.out; omega]; refine (HD.out _).mono ?_; rintro e w2 ⟨rfl, hL2⟩)
          | ((with_reducible show wpList _ _ _ _ _ w2); refine op_sadd (w := w2) rfl _ _ _ _ rfl P [h1] (by rfl) (by rfl) (by have := HPL.out; simp; omega) ?_))
        refine ⟨⟨k + 1, HLT.out, by have := HLT.out; have := HSZ.out; rw [show wrap64 ((k : Int) + 1) = ((k + 1 : Nat) : Int) from by unfold wrap64; omega], by rw [EH.out], below_mr (below_mr HMv.out (Drawn.below0 ⟨nq2, rfl⟩) (by have := HMv.out.size; have := HN.out; omega)) hL2 (by have := HMv.out.size; have := HN.out; show N ≤ v.heap.size; omega)⟩, by have := HLT.out; have := HSZ.out; rw [show wrap64 ((k : Int) + 1) = (k : Int) + 1 from by unfold wrap64; omega]; show s.size - ((k : Int) + 1).toNat < s.size - (k : Int).toNat; omega⟩
    · have hik : ¬ (k : Int) < (s.size : Int) := by omega
      have HE := Lib.hid (show modTo (sb s) (sb t) back k = pmod (sb s) (sb t) back from by rw [show k = s.size by omega]; unfold modTo pmod; rw [sb_len])
      clear hlt
      go_wp2
      go_ret
      exact ⟨by rw [← HE.out]; rfl, by rw [HN.out]; exact HM.out⟩
end Go.Proofs.YtbbfjlnkhenbiaaGreatDoor
set_option linter.unusedVariables false
set_option linter.unusedSimpArgs false
namespace Go.Proofs.YtbbfjlnkhenbiaaGreatDoor
open Go Go.RowKit Lk
/-- strings in a slice -/
def Ss (l : List ByteArray) : List Value := l.map Value.string
theorem Ss_get (l : List ByteArray) (k : Nat) (h : k < l.length) : (Ss l)[k]? = some (.string l[k]) := by simp [Ss, h]
set_option maxHeartbeats 1600000 in
set_option maxRecDepth 100000 in
theorem few_any (vk : Value) (key : List UInt8) (g L : Nat) (l : List ByteArray) (w : World) (hk : SlB w vk key) (hl : l.length = L) (hL : L ≤ 100) (hs : SlV w (.slice (some ⟨g, 0, none⟩) L L) (Ss l)) :
    Calls Tryz.prog 34 #[vk, .slice (some ⟨g, 0, none⟩) L L] w fun e w' => e = .returned (.bool (l.all (fun s => decide (s.size ≤ 100)) && decide (key.length ≤ 100))) ∧ w' = w := by
  have HS := Lib.hid (show ∀ k (h : k < L) (h2 : k < l.length), w.cell? ⟨g, k, none⟩ = some (.string l[k]) from fun k h h2 => by
    have := hs.cell k _ (Ss_get l k (by omega))
    rwa [Nat.zero_add] at this)
  obtain ⟨A, c, rfl, _⟩ := hk
  obtain ⟨K, eK⟩ : ∃ K, key.length = K := ⟨_, rfl⟩
  rw [eK]
  obtain ⟨R, eR⟩ : ∃ R, l.all (fun s => decide (s.size ≤ 100)) = R := ⟨_, rfl⟩
  have HR := Lib.hid eR
  have HLl := Lib.hid hl
  rw [eR]
  have hLi : (L : Int) ≤ 100 := by omega
  clear eK hs hl hL eR
  go_enter Tryz.func34, Tryz.ntmps34
  go_wp2
  go_loopw [5] (fun i wr => ∃ k : Nat, k ≤ L ∧ i = .int .i64 k ∧ (∀ j (h : j < k) (h2 : j < l.length), l[j].size ≤ 100) ∧ wr = w) (fun i _ => L - (intOf i).toNat)
  case atStart => exact ⟨0, by omega, rfl, fun j hj => by omega, rfl⟩
  case round =>
    obtain ⟨k, hk, rfl, hok, rfl⟩ := hrel
    by_cases hlt : k < L
    · have hik : (k : Int) < (L : Int) := by omega
      have HLT := Lib.hid hlt
      have HOK := Lib.hid hok
      have hkl : k < l.length := by rw [HLl.out]; exact hlt
      have cc := HS.out k hlt hkl
      obtain ⟨s, es⟩ : ∃ s, l[k] = s := ⟨_, rfl⟩
      rw [es] at cc
      have ES := Lib.hid es
      clear hok es
      by_cases h0 : s.size ≤ 100
      · have hq0 : ¬ (s.size : Int) > 100 := by omega
        have HH := Lib.hid h0
        clear h0
        go_wp2
        refine ⟨⟨k + 1, HLT.out, by first | (rw [Int.natCast_add]; rfl) | go_num, fun j hj h2 => ?_, by first | rfl | trivial⟩, ?_⟩
        · by_cases e : j = k
          · subst e; rw [ES.out]; exact HH.out
          · exact HOK.out j (by omega) h2
        · have := HLT.out
          show L - ((k : Int) + 1).toNat < L - ((k : Int)).toNat
          omega
      · have hq0 : (s.size : Int) > 100 := by omega
        have HH := Lib.hid (show R = false from by
          rw [← HR.out, List.all_eq_false]
          exact ⟨l[k], List.getElem_mem hkl, by rw [ES.out]; simpa using h0⟩)
        clear h0
        go_wp2
        go_ret
        exact ⟨by rw [HH.out]; rfl, rfl⟩
    · have hik : ¬ (k : Int) < (L : Int) := by omega
      have HH := Lib.hid (show R = true from by
        rw [← HR.out, List.all_eq_true]
        intro s hs
        obtain ⟨j, hj, rfl⟩ := List.mem_iff_getElem.1 hs
        exact decide_eq_true (hok j (by have := HLl.out; omega) hj))
      clear hok
      have hKd : decide ((K : Int) ≤ 100) = decide (K ≤ 100) := by rw [Bool.eq_iff_iff, decide_eq_true_iff, decide_eq_true_iff]; omega
      have HKd := Lib.hid hKd
      clear hKd
      go_wp2
      go_ret
      exact ⟨by rw [HH.out, Bool.true_and, ← HKd.out]; rfl, rfl⟩
end Go.Proofs.YtbbfjlnkhenbiaaGreatDoor
set_option linter.unusedVariables false
set_option linter.unusedSimpArgs false
namespace Lk
open Go Go.RowKit
theorem pmod_self (l : List UInt8) (h : ∀ c ∈ l, dv c < 10) : pmod l l true = List.replicate l.length 48 := by
  apply List.ext_getElem
  · simp [pmod]
  · intro i h1 h2
    simp only [pmod, List.getElem_map, List.getElem_range, List.getElem_replicate]
    have hi : i < l.length := by simpa [pmod] using h1
    have hd : dv (g8 l i) < 10 := h _ (by unfold g8; simp [hi])
    unfold padd
    rw [if_pos rfl, show (dv (g8 l i) + (10 - dv (g8 l i))) % 10 = 0 by omega]
    rfl
def TAB : ByteArray := ⟨#[48, 49, 50, 51, 52, 53, 54, 55, 56, 57, 48, 49, 50, 51, 52, 53]⟩
def DAT : ByteArray := ⟨#[50, 49, 48, 49, 50, 51, 52, 53, 54, 55, 56, 57, 70, 70, 70, 70]⟩
def ACC : ByteArray := ⟨#[53, 52, 51, 50, 49, 48, 49, 50, 51, 52, 53, 54, 55, 56, 57, 49]⟩
def SIX : ByteArray := ⟨#[48, 48, 48, 48, 48, 48]⟩
end Lk
namespace Go.Proofs.YtbbfjlnkhenbiaaGreatDoor
open Go Go.RowKit Lk
theorem pdat_acc : pdat ACC = DAT := by decide +kernel
theorem acc_ok : pwrong (sb ACC) 13 19 = (0, -1) := by decide +kernel
theorem pnat_key (key : List UInt8) (hk : key.length = 16) (data table : ByteArray) (hd : data.size = 16) (hp : pf 16 (sb data) = -1) (ht : table.size = 16) (hq : pf 10 (sb table) = -1) (m : Nat) (h4 : 4 ≤ m) (h12 : m ≤ 12) : pnat key data table m = (ofL (pnatL key data table m), 0, -1) := by
  unfold pnat
  rw [if_neg (by omega), if_neg (by omega), hp, if_neg (by omega), if_neg (by omega), hq, if_neg (by omega)]
  rfl
theorem pof_key (key : List UInt8) (hk : key.length = 16) (data table p : ByteArray) (hd : data.size = 16) (hp : pf 16 (sb data) = -1) (ht : table.size = 16) (hq : pf 10 (sb table) = -1) (h4 : 4 ≤ p.size) (h12 : p.size ≤ 12) (hpd : pf 10 (sb p) = -1) : pof key data table p = (ofL (pmod (sb p) (pnatL key data table p.size) true), 0, -1) := by
  have hw : pwrong (sb p) 4 12 = (0, -1) := by unfold pwrong; rw [sb_len, if_neg (by omega), hpd, if_neg (by omega)]
  unfold pof
  rw [hw, pnat_key key hk data table hd hp ht hq p.size h4 h12, if_neg (by simp), if_neg (by simp), sb_ofL]
set_option maxHeartbeats 3200000 in
set_option maxRecDepth 100000 in
theorem awake15_any (w : World) : Calls Tryz.prog 33 #[] w fun e w' => e = .returned (.bool true) ∧ Below w.heap.size w w' := by
  obtain ⟨key, hkey⟩ : ∃ key : List UInt8, key = List.replicate 16 0 := ⟨_, rfl⟩
  have hkl : key.length = 16 := by rw [hkey]; rfl
  obtain ⟨nn, hnn⟩ : ∃ nn, ofL (pnatL key DAT TAB 6) = nn := ⟨_, rfl⟩
  have hns : nn.size = 6 := by rw [← hnn, ofL_size, pnatL_len _ _ _ _ (by decide)]
  have hnd : pf 10 (sb nn) = -1 := by rw [← hnn, sb_ofL]; exact pnatL_dig _ _ _ _ rfl (by decide +kernel)
  have hn6 : pnat key DAT TAB 6 = (nn, 0, -1) := by rw [← hnn]; exact pnat_key key hkl DAT TAB rfl (by decide +kernel) rfl (by decide +kernel) 6 (by decide) (by decide)
  have hof : pof key DAT TAB nn = (SIX, 0, -1) := by
    rw [pof_key key hkl DAT TAB nn rfl (by decide +kernel) rfl (by decide +kernel) (by omega) (by omega) hnd, hns]
    rw [show pnatL key DAT TAB 6 = sb nn from by rw [← hnn, sb_ofL], pmod_self _ (all_of_pf (by omega)), sb_len, hns]
    rfl
  have hver : pver key DAT TAB SIX nn = (0, -1) := by
    unfold pver
    rw [hof, if_neg (by simp), if_neg (by rw [hns]; decide), show pf 10 (sb SIX) = -1 from by decide +kernel, if_neg (by decide), if_pos rfl]
  have HDa := Lib.hid (fun w => by have h := Data_ok ACC w acc_ok; rw [pdat_acc] at h; exact h)
  have HNa := Lib.hid (fun (v : Value) (w1 : World) (h : SlB w1 v key) => by have h := Natural_any v key DAT TAB 6 w1 h; rw [hn6] at h; exact h)
  have HOf := Lib.hid (fun (v : Value) (w1 : World) (h : SlB w1 v key) => by have h := Of_any v key DAT TAB nn w1 h (by omega); rw [hof] at h; exact h)
  have HVe := Lib.hid (fun (v : Value) (w1 : World) (h : SlB w1 v key) => by have h := VerifyO_any v key DAT TAB SIX nn w1 h (by omega) (by decide); rw [hver] at h; exact h)
  have hns' : (nn.size : Int) = 6 := by omega
  have hDL : (DAT.toList == [50, 49, 48, 49, 50, 51, 52, 53, 54, 55, 56, 57, 70, 70, 70, 70]) = true := by rw [ByteArray.toList_eq]; decide +kernel
  have hSL : (SIX.toList == [48, 48, 48, 48, 48, 48]) = true := by rw [ByteArray.toList_eq]; decide +kernel
  have HKL := Lib.hid hkl
  have HKEY := Lib.hid hkey
  clear hkey hkl hnn hns hnd hn6 hof hver
  go_enter Tryz.func33, Tryz.ntmps33
  go_wp2_with (first
    | (refine make_new (w := w) rfl 22 5 _ _ rfl 16 (by kernel_rfl) (by kernel_rfl) .i64 .i64 rfl rfl (by omega) ?_; intro w1 hB hG hz; have hL1 : Below w.heap.size w w1 := (below_none (Below.refl _ _) (Nat.le_refl _) hG); have HS1 := Lib.hid (show SlB w1 (.slice (some ⟨w.heap.size, 0, none⟩) 16 16) key from (by rw [HKEY.out]; exact hB.slB rfl (by decide))))
    | (go_at_call 37; refine (HDa.out _).mono ?_; rintro e w2 ⟨rfl, hL2⟩; have hM2 := below_more hL1 hL2 hL1.size; have HS2 := Lib.hid (HS1.out.below hL2))
    | (go_at_call 35; refine (HNa.out _ w2 HS2.out).mono ?_; rintro e w3 ⟨v3, rfl, hE3, hL3⟩; obtain rfl := hE3.nil; have hM3 := below_more hM2 hL3 hM2.size; have HS3 := Lib.hid (HS2.out.below hL3))
    | (go_at_call 39; refine (HOf.out _ w3 HS3.out).mono ?_; rintro e w4 ⟨v4, rfl, hE4, hL4⟩; obtain rfl := hE4.nil; have hM4 := below_more hM3 hL4 hM3.size; have HS4 := Lib.hid (HS3.out.below hL4))
    | (go_at_call 41; refine (HVe.out _ w4 HS4.out).mono ?_; rintro e w5 ⟨v5, rfl, hE5, hL5⟩; obtain rfl := hE5.nil; have hM5 := below_more hM4 hL5 hM4.size))
  go_ret
  exact ⟨rfl, hM5⟩
end Go.Proofs.YtbbfjlnkhenbiaaGreatDoor
